/- Parts VcU, VcV, Vs, DivPlain, Div, Safe, SafeAdd, Gap, ClkA, ClkB of the proof, put together. -/
import Derived.Test.YtgidaifoiljgoaaM4
import Derived.Test.YtgidaifoiljgoaaProg
import Derived.KernelRfl
import Derived.Test.YtgidaifoiljgoaaShelf
import Derived.Deep.CutRange
import Derived.Deep.CutBlock
import Derived.Laws.Bits64b
import Derived.Outline
import Derived.Lib.ItoaNum
import Derived.Deep.Cut
/- Contracts of the elder kind; slices that are lent. No program is named here. -/
namespace Go.Proofs.Ytgidaifoiljgoaa
set_option linter.unusedSimpArgs false
set_option linter.unusedVariables false
open Go.RowKit
mutual
def flatD : D → Bool
  | .v _ => true
  | .agg xs => flatDs xs
  | .sl _ _ => false
def flatDs : List D → Bool
  | [] => true
  | x :: r => flatD x && flatDs r
end
mutual
def flatA : AV → Bool
  | .d x => flatD x
  | .tup xs => flatAs xs
  | .any => true
  | _ => false
def flatAs : List AV → Bool
  | [] => true
  | x :: r => flatA x && flatAs r
end
section
variable {P : Program} {w w' : World} {F F' : Nat → Prop} {ρ ρ' : Nat → Option Value} {H : Hp} {L : List AObj} {n : Nat} {g : FuncId}
mutual
theorem RD.flat : ∀ (x : D) {v : Value}, flatD x = true → RD w F x v → RD w' F' x v
  | .v u, v, _, h => by cases h; exact .v _
  | .agg xs, v, l, h => by cases h with | agg h => exact .agg (RDs.flat xs (by simpa [flatD] using l) h)
  | .sl s r, v, l, _ => by simp [flatD] at l
theorem RDs.flat : ∀ (xs : List D) {vs : List Value}, flatDs xs = true → RDs w F xs vs → RDs w' F' xs vs
  | [], _, _, h => by cases h; exact .nil
  | x :: r, _, l, h => by simp [flatDs] at l; cases h with | cons h h1 hr => exact .cons (RD.flat x l.1 h) h1 (RDs.flat r l.2 hr)
end
mutual
theorem RA.flat : ∀ (x : AV) {v : Value}, flatA x = true → RA w F ρ x v → RA w' F' ρ' x v
  | .d x, v, l, h => by cases h with | d h => exact .d (h.flat x (by simpa [flatA] using l))
  | .tup xs, v, l, h => by cases h with | tup h => exact .tup (RAs.flat xs (by simpa [flatA] using l) h)
  | .any, v, _, _ => .any v
  | .ptr _ _, _, l, _ => by simp [flatA] at l
  | .own _, _, l, _ => by simp [flatA] at l
  | .ep _ _ _ _, _, l, _ => by simp [flatA] at l
  | .fp _, _, l, _ => by simp [flatA] at l
  | .agg _, _, l, _ => by simp [flatA] at l
  | .fn _ _ _, _, l, _ => by simp [flatA] at l
  | .mp _, _, l, _ => by simp [flatA] at l
theorem RAs.flat : ∀ (xs : List AV) {vs : List Value}, flatAs xs = true → RAs w F ρ xs vs → RAs w' F' ρ' xs vs
  | [], _, _, h => by cases h; exact .nil
  | x :: r, _, l, h => by simp [flatAs] at l; cases h with | cons h hr => exact .cons (RA.flat x l.1 h) (RAs.flat r l.2 hr)
end
/-! ### contracts of the elder kind -/
mutual
inductive FlatV : D → Value → Prop
  | v (u : Value) : FlatV (.v u) u
  | agg {xs : List D} {us : List Value} (h : FlatVs xs us) : FlatV (.agg xs) (.agg us.toArray)
inductive FlatVs : List D → List Value → Prop
  | nil : FlatVs [] []
  | cons {x : D} {xs : List D} {v : Value} {vs : List Value} (h : FlatV x v) (h1 : v.oneCell' = true) (hr : FlatVs xs vs) : FlatVs (x :: xs) (v :: vs)
end
mutual
inductive FlatW : AV → Value → Prop
  | d {x : D} {v : Value} (h : FlatV x v) : FlatW (.d x) v
  | tup {xs : List AV} {vs : List Value} (h : FlatWs xs vs) : FlatW (.tup xs) (.tuple vs.toArray)
inductive FlatWs : List AV → List Value → Prop
  | nil : FlatWs [] []
  | cons {x : AV} {xs : List AV} {v : Value} {vs : List Value} (h : FlatW x v) (hr : FlatWs xs vs) : FlatWs (x :: xs) (v :: vs)
end
mutual
theorem FlatV.rd : ∀ {x : D} {v : Value}, FlatV x v → RD w F x v
  | _, _, .v u => .v u
  | _, _, .agg h => .agg (FlatVs.rds h)
theorem FlatVs.rds : ∀ {x : List D} {v : List Value}, FlatVs x v → RDs w F x v
  | _, _, .nil => .nil
  | _, _, .cons h h1 hr => .cons (FlatV.rd h) h1 (FlatVs.rds hr)
end
mutual
theorem FlatV.eq : ∀ {x : D} {v u : Value}, FlatV x v → RD w F x u → u = v
  | _, _, _, .v u, h => by cases h; rfl
  | _, _, _, .agg h, k => by cases k with | agg k => rw [FlatVs.eq h k]
theorem FlatVs.eq : ∀ {x : List D} {v u : List Value}, FlatVs x v → RDs w F x u → u = v
  | _, _, _, .nil, h => by cases h; rfl
  | _, _, _, .cons h h1 hr, k => by cases k with | cons k k1 kr => rw [FlatV.eq h k, FlatVs.eq hr kr]
end
mutual
theorem FlatW.ra : ∀ {x : AV} {v : Value}, FlatW x v → RA w F ρ x v
  | _, _, .d h => .d h.rd
  | _, _, .tup h => .tup (FlatWs.ras h)
theorem FlatWs.ras : ∀ {x : List AV} {v : List Value}, FlatWs x v → RAs w F ρ x v
  | _, _, .nil => .nil
  | _, _, .cons h hr => .cons (FlatW.ra h) (FlatWs.ras hr)
end
mutual
theorem FlatW.eq : ∀ {x : AV} {v u : Value}, FlatW x v → RA w F ρ x u → u = v
  | _, _, _, .d h, k => by cases k with | d k => exact h.eq k
  | _, _, _, .tup h, k => by cases k with | tup k => rw [FlatWs.eq h k]
theorem FlatWs.eq : ∀ {x : List AV} {v u : List Value}, FlatWs x v → RAs w F ρ x u → u = v
  | _, _, _, .nil, h => by cases h; rfl
  | _, _, _, .cons h hr, k => by cases k with | cons k kr => rw [FlatW.eq h k, FlatWs.eq hr kr]
end
theorem step_below {w w' : World} (En : Env F ρ (hp []) w) (hb : Below w.heap.size w w') : Step F ρ (hp []) w F ρ (hp []) w' ∧ Env F ρ (hp []) w' := by
  have no : ∀ (i : Nat) (o : AObj), hp [] i = some o → False := fun i o h => by simp [hp] at h
  exact ⟨⟨hb.os, hb.tape, hb.output, hb.size, fun b h _ => hb.block b h, fun _ h => h, fun _ h => .inl h, fun b ⟨i, o, _, h, _⟩ => (no i o h).elim⟩,
    fun b h => Nat.lt_of_lt_of_le (En.fb b h) hb.size, En.abs, fun i o h => (no i o h).elim, fun i j o o' _ _ _ h => (no i o h).elim⟩
theorem Sat.of_calls {args : List AV} {vals : List Value} {r : AV} {rv : Value} (ha : FlatWs args vals) (hr : FlatW r rv) (h : ∀ w, Calls P g vals.toArray w fun e w' => e = .returned rv ∧ Below w.heap.size w w') : Sat P g args [] r [] := by
  intro F ρ w vs En hv
  have := ha.eq hv
  subst this
  refine (h w).mono ?_
  rintro e w' ⟨rfl, hb⟩
  obtain ⟨S, E'⟩ := step_below En hb
  exact ⟨rv, rfl, F, ρ, S, Keep.refl _, E', hr.ra⟩
theorem Sat.of_same {args : List AV} {vals : List Value} {r : AV} {rv : Value} (ha : FlatWs args vals) (hr : FlatW r rv) (h : ∀ w, Calls P g vals.toArray w fun e w' => e = .returned rv ∧ w = w') : Sat P g args [] r [] :=
  .of_calls ha hr fun w => (h w).mono fun e w' ⟨h1, h2⟩ => ⟨h1, by subst h2; exact Below.refl _ _⟩
/-! ### slices of the call's own that are lent to a function -/
def Lend (L : List AObj) : List AV → List AV → List Nat → Prop
  | [], [], ids => ids = []
  | .own i :: r, .d (.sl s rows) :: r1, ids => ∃ t, ids = i :: t ∧ L[i]? = some (.sl s rows) ∧ Lend L r r1 t
  | .d x :: r, .d y :: r1, ids => x = y ∧ Lend L r r1 ids
  | _, _, _ => False
theorem Lend.ras {F1 : Nat → Prop} (En : Env F ρ H w) (hF : ∀ b, F b → F1 b) : ∀ {args args1 : List AV} {ids : List Nat} {vs : List Value}, Lend L args args1 ids → (∀ i ∈ ids, H i = L[i]?) → (∀ i ∈ ids, ∀ h, ρ i = some h → ∀ b, blkOf h = some b → F1 b) → RAs w F ρ args vs → RAs w F1 (fun _ => none) args1 vs
  | [], [], _, _, _, _, _, h => by cases h; exact .nil
  | .d x :: r, .d y :: r1, ids, _, h, hi, hb, hv => by
    obtain ⟨rfl, h2⟩ := h
    cases hv with | cons hv hr => cases hv with | d hv => exact .cons (.d (hv.mono (fun _ _ => rfl) hF)) (Lend.ras En hF h2 hi hb hr)
  | .own i :: r, .d (.sl s rows) :: r1, ids, _, h, hi, hb, hv => by
    obtain ⟨t, rfl, h1, h2⟩ := h
    cases hv with | cons hv hr =>
      refine .cons ?_ (Lend.ras En hF h2 (fun j hj => hi j (List.mem_cons_of_mem _ hj)) (fun j hj => hb j (List.mem_cons_of_mem _ hj)) hr)
      have hi' : H i = some (.sl s rows) := by rw [hi i (List.mem_cons_self ..)]; exact h1
      cases hv with | own hv =>
        rename_i A m c
        obtain ⟨hh, e1, ⟨vs, how, hra, hs⟩, e3⟩ := En.rep i _ hi' rfl
        rw [hv] at e1; injection e1 with e1; subst e1
        obtain ⟨A', c', he, g1, g2, hrd⟩ := how.form
        injection he with q1 q2 q3
        subst q1 q2 q3
        refine .d (.sl rfl hs g1 g2 (hra.mono (fun _ _ => rfl) hF) fun hp => ?_)
        rcases Nat.eq_zero_or_pos s with hs0 | hs0
        · have hvs : vs = [] := List.eq_nil_of_length_eq_zero (by rw [hrd.1, hs0]; simp)
          subst hvs
          obtain ⟨g, off, cap, he, _⟩ := how.open_ hp
          injection he with q1 _ _
          subst q1
          exact ⟨g, off, rfl, hb i (List.mem_cons_self ..) _ hv g rfl, fun j hj => by simp at hj⟩
        · obtain ⟨b, off, rfl, _, hc⟩ := hrd.2 hp
          exact ⟨b, off, rfl, hb i (List.mem_cons_self ..) _ hv b rfl, hc⟩
  | [], _ :: _, _, _, h, _, _, _ => by simp [Lend] at h
  | .ptr .. :: _, _, _, _, h, _, _, _ => by simp [Lend] at h
  | .ep .. :: _, _, _, _, h, _, _, _ => by simp [Lend] at h
  | .fp .. :: _, _, _, _, h, _, _, _ => by simp [Lend] at h
  | .agg .. :: _, _, _, _, h, _, _, _ => by simp [Lend] at h
  | .tup .. :: _, _, _, _, h, _, _, _ => by simp [Lend] at h
  | .fn .. :: _, _, _, _, h, _, _, _ => by simp [Lend] at h
  | .mp .. :: _, _, _, _, h, _, _, _ => by simp [Lend] at h
  | .any :: _, _, _, _, h, _, _, _ => by simp [Lend] at h
  | .own _ :: _, [], _, _, h, _, _, _ => by simp [Lend] at h
  | .own _ :: _, .d (.v _) :: _, _, _, h, _, _, _ => by simp [Lend] at h
  | .own _ :: _, .d (.agg _) :: _, _, _, h, _, _, _ => by simp [Lend] at h
  | .own _ :: _, .ptr .. :: _, _, _, h, _, _, _ => by simp [Lend] at h
  | .own _ :: _, .own .. :: _, _, _, h, _, _, _ => by simp [Lend] at h
  | .own _ :: _, .ep .. :: _, _, _, h, _, _, _ => by simp [Lend] at h
  | .own _ :: _, .fp .. :: _, _, _, h, _, _, _ => by simp [Lend] at h
  | .own _ :: _, .agg .. :: _, _, _, h, _, _, _ => by simp [Lend] at h
  | .own _ :: _, .tup .. :: _, _, _, h, _, _, _ => by simp [Lend] at h
  | .own _ :: _, .fn .. :: _, _, _, h, _, _, _ => by simp [Lend] at h
  | .own _ :: _, .mp .. :: _, _, _, h, _, _, _ => by simp [Lend] at h
  | .own _ :: _, .any :: _, _, _, h, _, _, _ => by simp [Lend] at h
  | .d _ :: _, [], _, _, h, _, _, _ => by simp [Lend] at h
  | .d _ :: _, .ptr .. :: _, _, _, h, _, _, _ => by simp [Lend] at h
  | .d _ :: _, .own .. :: _, _, _, h, _, _, _ => by simp [Lend] at h
  | .d _ :: _, .ep .. :: _, _, _, h, _, _, _ => by simp [Lend] at h
  | .d _ :: _, .fp .. :: _, _, _, h, _, _, _ => by simp [Lend] at h
  | .d _ :: _, .agg .. :: _, _, _, h, _, _, _ => by simp [Lend] at h
  | .d _ :: _, .tup .. :: _, _, _, h, _, _, _ => by simp [Lend] at h
  | .d _ :: _, .fn .. :: _, _, _, h, _, _, _ => by simp [Lend] at h
  | .d _ :: _, .mp .. :: _, _, _, h, _, _, _ => by simp [Lend] at h
  | .d _ :: _, .any :: _, _, _, h, _, _, _ => by simp [Lend] at h
theorem Sat.lend {args args1 : List AV} {r : AV} {ids : List Nat} (h : Sat P g args1 [] r []) (hl : Lend L args args1 ids) (hr : flatA r = true) (hlive : ∀ i ∈ ids, ∃ o, L[i]? = some o ∧ o.live = true) : CallOK P g args L n ⟨ids, [], []⟩ r := by
  intro H F ρ w vals En hrs _ hv
  have hH : ∀ i ∈ ids, ∀ hh, ρ i = some hh → ∀ b, blkOf hh = some b → b < w.heap.size := by
    intro i hi hh hρ b hb
    obtain ⟨o, ho, hlv⟩ := hlive i hi
    obtain ⟨h0, e1, _, e3⟩ := En.rep i o (by rw [hrs i hi]; exact ho) hlv
    rw [hρ] at e1; injection e1 with e1; subst e1
    exact (e3 b hb).1
  let F1 : Nat → Prop := fun b => F b ∨ ∃ i ∈ ids, ∃ hh, ρ i = some hh ∧ blkOf hh = some b
  have E1 : Env F1 (fun _ => none) (hp []) w := ⟨fun b hb => hb.elim (En.fb b) fun ⟨i, hi, hh, h1, h2⟩ => hH i hi hh h1 b h2, fun _ _ => rfl, fun i o h => by simp [hp] at h, fun i j o o' _ _ _ h => by simp [hp] at h⟩
  refine (h F1 (fun _ => none) w vals E1 (hl.ras En (fun _ h => .inl h) hrs (fun i hi hh h1 b h2 => .inr ⟨i, hi, hh, h1, h2⟩) hv)).mono ?_
  rintro en w' ⟨v, rfl, F2, ρ2, S, _, E2, R⟩
  have hold : ∀ b, b < w.heap.size → w'.heap[b]? = w.heap[b]? := fun b hb => S.unch b hb fun ⟨i, o, _, h, _⟩ => by simp [hp] at h
  refine ⟨v, rfl, fun b => F2 b ∧ (F b ∨ w.heap.size ≤ b), ρ, ⟨S.os, S.tape, S.output, S.size, fun b hb _ => hold b hb, fun b hb => ⟨S.fsub b (.inl hb), .inl hb⟩, fun b hb => hb.2.elim .inl fun q => .inr (.inl q), fun b hb => .inr hb⟩, Keep.refl _, ?_, R.flat r hr⟩
  refine ⟨fun b hb => E2.fb b hb.1, En.abs, fun i o hi hlv => ?_, En.inj⟩
  obtain ⟨hh, e1, e2, e3⟩ := En.rep i o hi hlv
  exact ⟨hh, e1, e2.mono S.size (fun b _ hlt => hold b hlt) (fun b hb => hold b (En.fb b hb)) (fun b hb => ⟨S.fsub b (.inl hb), .inl hb⟩) (Keep.refl _), fun b hb => ⟨Nat.lt_of_lt_of_le (e3 b hb).1 S.size, fun q => q.2.elim (e3 b hb).2 fun q => by have := (e3 b hb).1; omega⟩⟩
theorem lend_live {args args1 : List AV} {ids : List Nat} : Lend L args args1 ids → ∀ i ∈ ids, ∃ o, L[i]? = some o ∧ o.live = true := by
  induction args generalizing args1 ids with
  | nil => intro h i hi; cases args1 <;> simp [Lend] at h; subst h; simp at hi
  | cons x r ih =>
    intro h i hi
    cases args1 with
    | nil => cases x <;> simp [Lend] at h
    | cons y r1 =>
      cases x <;> try (simp [Lend] at h; done)
      · cases y <;> try (simp [Lend] at h; done)
        exact ih h.2 i hi
      · cases y <;> try (simp [Lend] at h; done)
        rename_i j y
        cases y <;> try (simp [Lend] at h; done)
        obtain ⟨t, rfl, h1, h2⟩ := h
        rcases List.mem_cons.1 hi with e | e
        · subst e; exact ⟨_, h1, rfl⟩
        · exact ih h2 i e
/-- .. as it is used: one slice, lent in the first place. -/
theorem Sat.lend1 {i s : Nat} {rows : List (List D)} {as : List D} {r : AV} (h : Sat P g (.d (.sl s rows) :: as.map .d) [] r []) (hi : L[i]? = some (.sl s rows)) (hr : flatA r = true) : CallOK P g (.own i :: as.map .d) L n ⟨[i], [], []⟩ r := by
  have hall : ∀ (as : List D), Lend L (as.map .d) (as.map .d) [] := by
    intro as
    induction as with
    | nil => rfl
    | cons a as ih => exact ⟨rfl, ih⟩
  have hl : Lend L (.own i :: as.map .d) (.d (.sl s rows) :: as.map .d) [i] := ⟨[], rfl, hi, hall as⟩
  exact h.lend hl hr (lend_live hl)
theorem appW_dead : ∀ {ids : List Nat} {H : Hp} {k : Nat}, appW (ids.map fun i => (i, AObj.dead)) H k = if k ∈ ids then some .dead else H k
  | [], H, k => by simp [appW]
  | i :: r, H, k => by
    rw [List.map_cons, appW, appW_dead (ids := r)]
    by_cases h : k ∈ r
    · rw [if_pos h, if_pos (List.mem_cons_of_mem _ h)]
    · rw [if_neg h]
      by_cases e : k = i
      · subst e; rw [updF_same, if_pos (List.mem_cons_self ..)]
      · rw [updF_ne _ _ e, if_neg (by simp [e, h])]
/-- Slices of the call's own that are data from the call on. -/
theorem Sat.frz {args args1 : List AV} {r : AV} {ids : List Nat} (h : Sat P g args1 [] r []) (hl : Lend L args args1 ids) (hr : AV.lt 0 r = true) : CallOK P g args L n ⟨ids, ids.map fun i => (i, .dead), []⟩ r := by
  have hlive := lend_live hl
  intro H F ρ w vals En hrs _ hv
  have hH : ∀ i ∈ ids, ∀ hh, ρ i = some hh → ∀ b, blkOf hh = some b → b < w.heap.size ∧ Lv ρ H b := by
    intro i hi hh hρ b hb
    obtain ⟨o, ho, hlv⟩ := hlive i hi
    have ho' : H i = some o := by rw [hrs i hi]; exact ho
    obtain ⟨h0, e1, _, e3⟩ := En.rep i o ho' hlv
    rw [hρ] at e1; injection e1 with e1; subst e1
    exact ⟨(e3 b hb).1, i, o, hh, ho', hlv, hρ, hb⟩
  let F1 : Nat → Prop := fun b => F b ∨ ∃ i ∈ ids, ∃ hh, ρ i = some hh ∧ blkOf hh = some b
  have E1 : Env F1 (fun _ => none) (hp []) w := ⟨fun b hb => hb.elim (En.fb b) fun ⟨i, hi, hh, h1, h2⟩ => (hH i hi hh h1 b h2).1, fun _ _ => rfl, fun i o h => by simp [hp] at h, fun i j o o' _ _ _ h => by simp [hp] at h⟩
  refine (h F1 (fun _ => none) w vals E1 (hl.ras En (fun _ h => .inl h) hrs (fun i hi hh h1 b h2 => .inr ⟨i, hi, hh, h1, h2⟩) hv)).mono ?_
  rintro en w' ⟨v, rfl, F2, ρ2, S, _, E2, R⟩
  have nolv : ∀ b, ¬ Lv (fun _ => none) (hp []) b := fun b ⟨i, o, _, h, _⟩ => by simp [hp] at h
  have hold : ∀ b, b < w.heap.size → w'.heap[b]? = w.heap[b]? := fun b hb => S.unch b hb (nolv b)
  have hHk : ∀ i o, appN n [] (appW (ids.map fun i => (i, AObj.dead)) H) i = some o → o.live = true → i ∉ ids ∧ H i = some o := by
    intro i o hi hlv
    rw [appN, appW_dead] at hi
    split at hi
    · injection hi with hi; subst hi; cases hlv
    · rename_i hni; exact ⟨hni, hi⟩
  refine ⟨v, rfl, F2, ρ, ⟨S.os, S.tape, S.output, S.size, fun b hb _ => hold b hb, fun b hb => S.fsub b (.inl hb), fun b hb => ?_, fun b ⟨i, o, hh, h1, h2, h3, h4⟩ => .inr ⟨i, o, hh, (hHk i o h1 h2).2, h2, h3, h4⟩⟩, Keep.refl _, ⟨E2.fb, fun i hi => ?_, fun i o hi hlv => ?_, fun i j o o' hh hh' b e1 e2 l1 l2 => En.inj i j o o' hh hh' b (hHk i o e1 l1).2 (hHk j o' e2 l2).2 l1 l2⟩, ?_⟩
  · rcases S.fsrc b hb with q | q | q
    · rcases q with q | ⟨i, hi, hh, h1, h2⟩
      · exact .inl q
      · exact .inr (.inr (hH i hi hh h1 b h2).2)
    · exact .inr (.inl q)
    · exact (nolv b q).elim
  · rw [appN, appW_dead] at hi
    split at hi
    · cases hi
    · exact En.abs i hi
  · obtain ⟨hni, hi'⟩ := hHk i o hi hlv
    obtain ⟨hh, e1, e2, e3⟩ := En.rep i o hi' hlv
    refine ⟨hh, e1, e2.mono S.size (fun b _ hlt => hold b hlt) (fun b hb => hold b (En.fb b hb)) (fun b hb => S.fsub b (.inl hb)) (Keep.refl _), fun b hb => ⟨Nat.lt_of_lt_of_le (e3 b hb).1 S.size, fun q => ?_⟩⟩
    rcases S.fsrc b q with q | q | q
    · rcases q with q | ⟨j, hj, hh', h1, h2⟩
      · exact (e3 b hb).2 q
      · obtain ⟨oj, hoj, hlj⟩ := hlive j hj
        have := En.inj i j o oj hh hh' b hi' (by rw [hrs j hj]; exact hoj) hlv hlj e1 h1 hb h2
        subst this
        exact hni hj
    · have := (e3 b hb).1; omega
    · exact (nolv b q).elim
  · exact RA.low (m := 0) (fun j h hj => absurd hj (Nat.not_lt_zero _)) r hr R
/-- .. as it is used: one slice, in the first place. -/
theorem Sat.frz1 {i s : Nat} {rows : List (List D)} {as : List D} {r : AV} (h : Sat P g (.d (.sl s rows) :: as.map .d) [] r []) (hi : L[i]? = some (.sl s rows)) (hr : AV.lt 0 r = true) : CallOK P g (.own i :: as.map .d) L n ⟨[i], [(i, .dead)], []⟩ r := by
  have hall : ∀ (as : List D), Lend L (as.map .d) (as.map .d) [] := by
    intro as
    induction as with
    | nil => rfl
    | cons a as ih => exact ⟨rfl, ih⟩
  have hl : Lend L (.own i :: as.map .d) (.d (.sl s rows) :: as.map .d) [i] := ⟨[], rfl, hi, hall as⟩
  exact h.frz hl hr
/-- A slice of the call's own is lent; a new one comes back. -/
theorem Sat.lendNew {i s s' : Nat} {rows rows' : List (List D)} {as : List D} {us : List Value} (h : Sat P g (.d (.sl s rows) :: as.map .d) [] (.own 0) [.sl s' rows']) (hi : L[i]? = some (.sl s rows)) (hf : FlatVs rows'.flatten us) :
    CallOK P g (.own i :: as.map .d) L n ⟨[i], [], [.sl s' rows']⟩ (.own n) := by
  have hall : ∀ (as : List D), Lend L (as.map .d) (as.map .d) [] := by
    intro as
    induction as with
    | nil => rfl
    | cons a as ih => exact ⟨rfl, ih⟩
  have hl : Lend L (.own i :: as.map .d) (.d (.sl s rows) :: as.map .d) [i] := ⟨[], rfl, hi, hall as⟩
  have hlive := lend_live hl
  intro H F ρ w vals En hrs hnew hv
  have hH : ∀ j ∈ [i], ∀ hh, ρ j = some hh → ∀ b, blkOf hh = some b → b < w.heap.size := by
    intro j hj hh hρ b hb
    obtain ⟨o, ho, hlv⟩ := hlive j hj
    obtain ⟨h0, e1, _, e3⟩ := En.rep j o (by rw [hrs j hj]; exact ho) hlv
    rw [hρ] at e1; injection e1 with e1; subst e1
    exact (e3 b hb).1
  let F1 : Nat → Prop := fun b => F b ∨ ∃ j ∈ [i], ∃ hh, ρ j = some hh ∧ blkOf hh = some b
  have E1 : Env F1 (fun _ => none) (hp []) w := ⟨fun b hb => hb.elim (En.fb b) fun ⟨j, hj, hh, h1, h2⟩ => hH j hj hh h1 b h2, fun _ _ => rfl, fun i o h => by simp [hp] at h, fun i j o o' _ _ _ h => by simp [hp] at h⟩
  refine (h F1 (fun _ => none) w vals E1 (hl.ras En (fun _ h => .inl h) hrs (fun j hj hh h1 b h2 => .inr ⟨j, hj, hh, h1, h2⟩) hv)).mono ?_
  rintro en w' ⟨v, rfl, F2, ρ2, S, _, E2, R⟩
  have nolv : ∀ b, ¬ Lv (fun _ => none) (hp []) b := fun b ⟨i, o, _, h, _⟩ => by simp [hp] at h
  have hG : w.grownBy w' none := ⟨S.os, S.tape, S.output, S.size, fun b hb _ => S.unch b hb (nolv b)⟩
  obtain ⟨hh, e1, ⟨vs, how, hra, hs⟩, e3⟩ := E2.rep 0 _ rfl rfl
  obtain rfl := hf.eq hra
  cases R with | own R =>
  rw [R] at e1; injection e1 with e1; subst e1
  have hn : H n = none := by simpa using hnew 0 (by simp)
  obtain ⟨S', K', E'⟩ := En.new (n := n) (o' := .sl s' rows') hn hG (fun b hb => ⟨(S.lsrc b ⟨0, _, _, rfl, rfl, R, hb⟩).elim id fun q => (nolv b q).elim, (e3 b hb).1⟩) ⟨_, how, hf.rds, hs⟩
  exact ⟨_, rfl, F, _, S', K', E', .own (updF_same _ _ _)⟩
/-- Data of a slice, as the elder contracts have it. -/
theorem RD.sl_rd {s : Nat} {rows : List (List D)} {us : List Value} {v : Value} (h : RD w F (.sl s rows) v) (hF : ∀ b, F b → b < w.heap.size) (hf : FlatVs rows.flatten us) : ∃ A c, v = .slice A rows.length c ∧ rows.length ≤ c ∧ c ≤ maxLen ∧ Rd w w.heap.size s A rows.length us := by
  cases h with | sl hn hs h1 h2 hr hm =>
    subst hn
    have := hf.eq hr
    subst this
    refine ⟨_, _, rfl, h1, h2, ⟨by rw [hr.length, flat_len hs], fun hp => ?_⟩⟩
    obtain ⟨b, off, e, hb, hc⟩ := hm hp
    exact ⟨b, off, e, hF b hb, hc⟩
theorem flat_map {α : Type} {f : α → List D} {q : α → List Value} (h : ∀ a, FlatVs (f a) (q a)) : ∀ (l : List α), FlatVs (l.map f).flatten (l.map q).flatten
  | [] => .nil
  | a :: l => by
    rw [List.map_cons, List.flatten_cons, List.map_cons, List.flatten_cons]
    have app : ∀ {xs ys : List D} {us vs : List Value}, FlatVs xs us → FlatVs ys vs → FlatVs (xs ++ ys) (us ++ vs) := by
      intro xs
      induction xs with
      | nil => intro ys us vs h k; cases h; exact k
      | cons x xs ih => intro ys us vs h k; cases h with | cons h h1 hr => exact .cons h h1 (ih hr k)
    exact app (h a) (flat_map h l)
end
end Go.Proofs.Ytgidaifoiljgoaa
/- Operations on slices, as they are asked for by the conditions. No program is named here. -/
namespace Go.Proofs.Ytgidaifoiljgoaa
set_option linter.unusedSimpArgs false
set_option linter.unusedVariables false
open Go.RowKit
def slB (P : Program) (t s b : Nat) : Bool :=
  match (tiOf P t).kind with
  | .sli => Nat.beq (tiOf P t).esize s && Nat.blt 0 s && Nat.beq (tiOf P t).ebytes b && Nat.blt 0 b && (match (tiOf P (tiOf P t).elem).kind with | .non => false | _ => true)
  | _ => false
section
variable {P : Program} {w w' : World} {F F' : Nat → Prop} {ρ ρ' : Nat → Option Value} {H : Hp} {L : List AObj} {ty n t s b i j : Nat} {rows rows2 : List (List D)} {sx xx a1 a2 : Operand} {c lo hi : Nat} {kd kd' kl kh : IntKind}
theorem slB_out (h : slB P t s b = true) : (tiOf P t).kind = .sli ∧ (tiOf P t).esize = s ∧ 0 < s ∧ (tiOf P t).ebytes = b ∧ 0 < b ∧ (tiOf P (tiOf P t).elem).kind ≠ .non := by
  unfold slB at h
  split at h
  · rename_i hk
    simp only [Bool.and_eq_true, Nat.blt_eq] at h
    refine ⟨hk, Nat.eq_of_beq_eq_true h.1.1.1.1, h.1.1.1.2, Nat.eq_of_beq_eq_true h.1.1.2, h.1.2, fun e => ?_⟩
    have := h.2
    rw [e] at this; cases this
  · cases h
theorem le_max {k b : Nat} (hb : 0 < b) (h : k * b ≤ 140737488355328) : k ≤ maxLen := by
  have : k ≤ k * b := Nat.le_mul_of_pos_right _ hb
  unfold maxLen; omega
theorem mk0 (s b : Nat) (h : slB P t s b = true) (hb : b * c ≤ 281474976710656) (hm : c ≤ maxLen) : Does P (.makeSlice t a1 a2) ty L n [.d (.v (.int kd 0)), .d (.v (.int kd' c))] ⟨[], [], [.sl s []]⟩ (.own n) := by
  obtain ⟨h1, h2, h3, h4, _, h5⟩ := slB_out h
  exact does_make0 h1 h2 h3 h5 (by rw [h4]; exact hb) hm
theorem ap (s b : Nat) (h : slB P t s b = true) (hi : L[i]? = some (.sl s rows)) (hj : L[j]? = some (.sl s rows2)) (hb : (rows.length + rows2.length) * b ≤ 140737488355328) : Does P (.call { callee := .builtin .append, args := #[sx, xx], argTypes := #[t, t] }) ty L n [.own i, .own j] ⟨[i, j], [(i, .dead)], [.sl s (rows ++ rows2)]⟩ (.own n) := by
  obtain ⟨h1, h2, h3, h4, h6, h5⟩ := slB_out h
  subst h4
  exact does_append h1 h2 h3 h5 hi (.inr (.inl ⟨j, rfl, hj, rfl⟩)) hb (le_max h6 hb)
/-- .. of data. -/
theorem apd (s b : Nat) (h : slB P t s b = true) (hi : L[i]? = some (.sl s rows)) (hb : (rows.length + rows2.length) * b ≤ 140737488355328) : Does P (.call { callee := .builtin .append, args := #[sx, xx], argTypes := #[t, t] }) ty L n [.own i, .d (.sl s rows2)] ⟨[i], [(i, .dead)], [.sl s (rows ++ rows2)]⟩ (.own n) := by
  obtain ⟨h1, h2, h3, h4, h6, h5⟩ := slB_out h
  subst h4
  exact does_append h1 h2 h3 h5 hi (.inl ⟨rfl, rfl⟩) hb (le_max h6 hb)
/-- .. onto nil. -/
theorem ap0 (s b : Nat) (h : slB P t s b = true) (hj : L[j]? = some (.sl s rows2)) (hb : rows2.length * b ≤ 140737488355328) : Does P (.call { callee := .builtin .append, args := #[sx, xx], argTypes := #[t, t] }) ty L n [.d (.v (.slice none 0 0)), .own j] ⟨[j], [], [.sl s rows2]⟩ (.own n) := by
  obtain ⟨h1, h2, h3, h4, h6, h5⟩ := slB_out h
  subst h4
  exact does_append_nil h1 h2 h3 h5 (.inr (.inl ⟨j, rfl, hj, rfl⟩)) hb (le_max h6 hb)
theorem ap0d (s b : Nat) (h : slB P t s b = true) (hb : rows2.length * b ≤ 140737488355328) : Does P (.call { callee := .builtin .append, args := #[sx, xx], argTypes := #[t, t] }) ty L n [.d (.v (.slice none 0 0)), .d (.sl s rows2)] ⟨[], [], [.sl s rows2]⟩ (.own n) := by
  obtain ⟨h1, h2, h3, h4, h6, h5⟩ := slB_out h
  subst h4
  exact does_append_nil h1 h2 h3 h5 (.inl ⟨rfl, rfl⟩) hb (le_max h6 hb)
theorem mkf (s b : Nat) (h : slB P t s b = true) (hb : b * c ≤ 281474976710656) (hm : c ≤ maxLen) : Does P (.makeSlice t a1 a2) ty L n [.d (.v (.int kd c)), .d (.v (.int kd' c))] ⟨[], [], [.sl s (List.replicate c ((tiOf P (tiOf P t).elem).zero.map .v))]⟩ (.own n) := by
  obtain ⟨h1, h2, h3, h4, _, h5⟩ := slB_out h
  exact does_make h1 h2 h3 h5 (by rw [h4]; exact hb) hm
theorem sl_d (s b : Nat) (h : slB P t s b = true) (h1 : lo ≤ hi) (h2 : hi ≤ rows.length) : Does P (.slice t sx (some a1) (some a2) none) ty L n [.d (.sl s rows), .d (.v (.int kl lo)), .d (.v (.int kh hi))] e0 (.d (.sl s ((rows.take hi).drop lo))) := by
  obtain ⟨g1, g2, g3, _⟩ := slB_out h
  exact does_piece g1 g2 g3 h1 h2
theorem from_d (s b : Nat) (h : slB P t s b = true) (h1 : lo ≤ rows.length) : Does P (.slice t sx (some a1) none none) ty L n [.d (.sl s rows), .d (.v (.int kl lo))] e0 (.d (.sl s (rows.drop lo))) := by
  obtain ⟨g1, g2, g3, _⟩ := slB_out h
  exact does_from g1 g2 g3 h1
theorem upto_d (s b : Nat) (h : slB P t s b = true) (h1 : hi ≤ rows.length) : Does P (.slice t sx none (some a2) none) ty L n [.d (.sl s rows), .d (.v (.int kh hi))] e0 (.d (.sl s (rows.take hi))) := by
  obtain ⟨g1, g2, g3, _⟩ := slB_out h
  exact does_upto g1 g2 g3 h1
theorem upto_o (s b : Nat) (h : slB P t s b = true) (hi' : L[i]? = some (.sl s rows)) (h1 : hi ≤ rows.length) : Does P (.slice t sx none (some a2) none) ty L n [.own i, .d (.v (.int kh hi))] ⟨[i], [(i, .dead)], [.sl s (rows.take hi)]⟩ (.own n) := by
  obtain ⟨g1, g2, g3, _⟩ := slB_out h
  exact does_own_upto g1 g2 g3 hi' h1
/-- A call with one object of the caller's. -/
theorem Sat.at1 {g : FuncId} {args : List AV} {o o' : AObj} {N : List AObj} {r : AV} (h : Sat P g args [o] r (o' :: N)) (a : Nat) (hlive : o.live = true) (hids : (AV.lts 1 args && AObj.lts 1 [o]) = true)
    (ha : L[a]? = some (o.rn (sub [a] n))) : CallOK P g (AV.rns (sub [a] n) args) L n ⟨[a], [(a, o'.rn (sub [a] n))], AObj.rns (sub [a] n) N⟩ (r.rn (sub [a] n)) :=
  h.at_ [a] L n rfl (by simp) rfl (by simp [AObj.lives, hlive]) hids fun j hj => by
    match j, hj with
    | 0, _ => exact ha
/-- .. with two. -/
theorem Sat.at2 {g : FuncId} {args : List AV} {o o' p p' : AObj} {N : List AObj} {r : AV} (h : Sat P g args [o, p] r (o' :: p' :: N)) (a b : Nat) (hab : Nat.beq a b = false) (hlive : (o.live && p.live) = true) (hids : (AV.lts 2 args && AObj.lts 2 [o, p]) = true)
    (ha : L[a]? = some (o.rn (sub [a, b] n))) (hb : L[b]? = some (p.rn (sub [a, b] n))) : CallOK P g (AV.rns (sub [a, b] n) args) L n ⟨[a, b], [(a, o'.rn (sub [a, b] n)), (b, p'.rn (sub [a, b] n))], AObj.rns (sub [a, b] n) N⟩ (r.rn (sub [a, b] n)) := by
  simp only [Bool.and_eq_true] at hlive
  have hne : a ≠ b := fun e => by subst e; simp at hab
  exact h.at_ [a, b] L n rfl (by simp [hne]) rfl (by simp [AObj.lives, hlive]) hids fun j hj => by
    match j, hj with
    | 0, _ => exact ha
    | 1, _ => exact hb
/-- .. with three. -/
theorem Sat.at3 {g : FuncId} {args : List AV} {o o' p p' q q' : AObj} {N : List AObj} {r : AV} (h : Sat P g args [o, p, q] r (o' :: p' :: q' :: N)) (a b c : Nat) (hab : (Nat.beq a b || Nat.beq a c || Nat.beq b c) = false) (hlive : (o.live && p.live && q.live) = true) (hids : (AV.lts 3 args && AObj.lts 3 [o, p, q]) = true)
    (ha : L[a]? = some (o.rn (sub [a, b, c] n))) (hb : L[b]? = some (p.rn (sub [a, b, c] n))) (hc : L[c]? = some (q.rn (sub [a, b, c] n))) :
    CallOK P g (AV.rns (sub [a, b, c] n) args) L n ⟨[a, b, c], [(a, o'.rn (sub [a, b, c] n)), (b, p'.rn (sub [a, b, c] n)), (c, q'.rn (sub [a, b, c] n))], AObj.rns (sub [a, b, c] n) N⟩ (r.rn (sub [a, b, c] n)) := by
  simp only [Bool.and_eq_true] at hlive
  simp only [Bool.or_eq_false_iff] at hab
  have h1 : a ≠ b := fun e => by subst e; simp at hab
  have h2 : a ≠ c := fun e => by subst e; simp at hab
  have h3 : b ≠ c := fun e => by subst e; simp at hab
  exact h.at_ [a, b, c] L n rfl (by simp [h1, h2, h3]) rfl (by simp [AObj.lives, hlive]) hids fun j hj => by
    match j, hj with
    | 0, _ => exact ha
    | 1, _ => exact hb
    | 2, _ => exact hc
theorem lendON {g s' : Nat} {rows' : List (List D)} {us : List Value} (h : Sat P g [.d (.sl s rows)] [] (.own 0) [.sl s' rows']) (hi : L[i]? = some (.sl s rows)) (hf : FlatVs rows'.flatten us) : CallOK P g [.own i] L n ⟨[i], [], [.sl s' rows']⟩ (.own n) := Sat.lendNew («as» := []) h hi hf
theorem lendO {g : Nat} {r : AV} (h : Sat P g [.d (.sl s rows)] [] r []) (hi : L[i]? = some (.sl s rows)) (hr : flatA r = true) : CallOK P g [.own i] L n ⟨[i], [], []⟩ r := Sat.lend1 («as» := []) h hi hr
theorem from_o (s b : Nat) (h : slB P t s b = true) (hi' : L[i]? = some (.sl s rows)) (h1 : lo ≤ rows.length) : Does P (.slice t sx (some a1) none none) ty L n [.own i, .d (.v (.int kl lo))] ⟨[i], [(i, .dead)], []⟩ (.d (.sl s (rows.drop lo))) := by
  obtain ⟨g1, g2, g3, _⟩ := slB_out h
  exact does_own_from g1 g2 g3 hi' h1
end
theorem wi {n : Int} (h1 : -9223372036854775808 ≤ n) (h2 : n ≤ 9223372036854775807) : IntKind.i64.wrap n = n := by rw [IntKind.wrap_i64]; omega
/-- A counter goes on by one. -/
theorem wk1 {k : Nat} (h : k ≤ 9223372036854775806) : AV.d (.v (.int .i64 (IntKind.i64.wrap ((k : Int) + 1)))) = AV.d (.v (.int .i64 ((k + 1 : Nat) : Int))) := by rw [wi (by omega) (by omega)]; rfl
end Go.Proofs.Ytgidaifoiljgoaa
/- What the conditions need of the program's tables. -/
namespace Go.Proofs.Ytgidaifoiljgoaa
set_option linter.unusedSimpArgs false
set_option linter.unusedVariables false
theorem tf {p : Prop} : true = false → p := fun h => Bool.noConfusion h
theorem ft {p : Prop} : false = true → p := fun h => Bool.noConfusion h
theorem hm0 : Try.prog.follows .mixedOrders = true := by kernel_rfl
def E0 (g : Nat) : Bool := Nat.blt 1 g && Nat.blt g 129 && !(Nat.beq g 122)
theorem E0_all : ((List.range 129).all fun g => !(E0 g) || entersB Try.prog g) = true := by kernel_rfl
theorem hE0 : ∀ g, E0 g = true → entersB Try.prog g = true := fun g h => by
  have hlt : g < 129 := by simp [E0, Nat.blt_eq] at h; omega
  have := List.all_eq_true.1 E0_all g (List.mem_range.2 hlt)
  simpa [h] using this
end Go.Proofs.Ytgidaifoiljgoaa
/- Division of 128 bits by 64, digit by digit: the plain laws. No program is named here. -/
namespace Go.Proofs.Ytgidaifoiljgoaa
set_option linter.unusedSimpArgs false
set_option linter.unusedVariables false
/-- The digit: u and w by y. -/
def dgt (u w y : Nat) : Nat := (u * 4294967296 + w) / y
def dgr (u w y : Nat) : Nat := (u * 4294967296 + w) % y
section
variable {u w y h o q r : Nat}
theorem dgt_lt (hy : 0 < y) (hu : u < y) (hw : w < 4294967296) : dgt u w y < 4294967296 := by
  unfold dgt
  rw [Nat.div_lt_iff_lt_mul hy]
  have : u * 4294967296 + 4294967296 ≤ y * 4294967296 := by omega
  rw [Nat.mul_comm 4294967296 y]
  omega
theorem mul_split (hyo : y = h * 4294967296 + o) (q : Nat) : q * y = q * h * 4294967296 + q * o := by rw [hyo, Nat.mul_add, Nat.mul_assoc]
/-- The guess is too great just where the test says so. -/
theorem guess_gt (hy : 0 < y) (hyo : y = h * 4294967296 + o) (hq : u = q * h + r) : r * 4294967296 + w < q * o ↔ dgt u w y < q := by
  unfold dgt
  rw [Nat.div_lt_iff_lt_mul hy, mul_split hyo q, hq]
  generalize q * h = a
  generalize q * o = b
  omega
theorem guess_far (hy : 0 < y) (hyo : y = h * 4294967296 + o) (ho : o < 4294967296) (hq : u = q * h + r) (hr : 4294967296 ≤ r) (hq1 : q ≤ 4294967296) : q ≤ dgt u w y := by
  refine Nat.le_of_not_lt fun hlt => ?_
  rw [← guess_gt hy hyo hq] at hlt
  have h1 : q * o ≤ 4294967296 * 4294967295 := Nat.mul_le_mul hq1 (by omega)
  omega
theorem guess_first (hh : 0 < h) (hyo : y = h * 4294967296 + o) (hn : 2147483648 ≤ h) (ho : o < 4294967296) (hu : u < y) : u / h ≤ 4294967297 := by
  refine Nat.le_of_lt_succ ((Nat.div_lt_iff_lt_mul hh).2 ?_)
  have : (4294967297 + 1) * h = 4294967298 * h := rfl
  omega
theorem guess_ge (hy : 0 < y) (hyo : y = h * 4294967296 + o) (hh : 0 < h) (hw : w < 4294967296) : dgt u w y ≤ u / h := by
  unfold dgt
  rw [Nat.le_div_iff_mul_le hh]
  have h1 : (u * 4294967296 + w) / y * y ≤ u * 4294967296 + w := Nat.div_mul_le_self _ _
  rw [mul_split hyo] at h1
  generalize (u * 4294967296 + w) / y * h = a at h1 ⊢
  generalize (u * 4294967296 + w) / y * o = b at h1
  omega
theorem dgr_lt (hy : 0 < y) : dgr u w y < y := Nat.mod_lt _ hy
theorem dgt_mul (u w y : Nat) : dgt u w y * y + dgr u w y = u * 4294967296 + w := by
  unfold dgt dgr
  rw [Nat.mul_comm]
  exact Nat.div_add_mod _ _
set_option maxRecDepth 100000 in
theorem two_digits (hy : 0 < y) (u a b U : Nat) (hU : U = (u * 4294967296 + a) * 4294967296 + b) : U / y = dgt u a y * 4294967296 + dgt (dgr u a y) b y ∧ U % y = dgr (dgr u a y) b y := by
  have h1 := dgt_mul u a y
  have h2 := dgt_mul (dgr u a y) b y
  have h3 := dgr_lt (u := dgr u a y) (w := b) hy
  have e : U = y * (dgt u a y * 4294967296 + dgt (dgr u a y) b y) + dgr (dgr u a y) b y := by
    rw [hU, ← h1, Nat.add_mul, Nat.add_assoc, ← h2, Nat.mul_add, Nat.mul_comm y (dgt (dgr u a y) b y), ← Nat.mul_assoc, Nat.mul_comm y (dgt u a y)]
    omega
  rw [e]
  exact ⟨by rw [Nat.mul_add_div hy, Nat.div_eq_of_lt h3, Nat.add_zero], by rw [Nat.mul_add_mod, Nat.mod_eq_of_lt h3]⟩
/-- What is shifted. -/
theorem shift_div (N y s : Nat) : N * 2 ^ s / (y * 2 ^ s) = N / y ∧ N * 2 ^ s % (y * 2 ^ s) = N % y * 2 ^ s :=
  ⟨Nat.mul_div_mul_right _ _ (Nat.two_pow_pos s), Nat.mul_mod_mul_right _ _ _⟩
theorem shift_parts (hi lo s : Nat) (hs : s < 64) (hlo : lo < 18446744073709551616) (hh : hi * 2 ^ s < 18446744073709551616) :
    (hi * 18446744073709551616 + lo) * 2 ^ s = (hi * 2 ^ s + lo / 2 ^ (64 - s)) * 18446744073709551616 + lo * 2 ^ s % 18446744073709551616 := by
  have hp : 2 ^ (64 - s) * 2 ^ s = 18446744073709551616 := by rw [← Nat.pow_add, show 64 - s + s = 64 by omega]
  have h1 : lo * 2 ^ s / 18446744073709551616 = lo / 2 ^ (64 - s) := by rw [← hp, Nat.mul_div_mul_right _ _ (Nat.two_pow_pos s)]
  have h2 := Nat.div_add_mod (lo * 2 ^ s) 18446744073709551616
  rw [h1] at h2
  rw [Nat.add_mul, Nat.mul_right_comm, Nat.add_mul, ← h2]
  omega
theorem or_parts (a s b : Nat) (hb : b < 2 ^ s) : a * 2 ^ s ||| b = a * 2 ^ s + b := by
  rw [← Nat.shiftLeft_eq, Nat.shiftLeft_add_eq_or_of_lt hb]
end
end Go.Proofs.Ytgidaifoiljgoaa
/- bits.Div64. -/
namespace Go.Proofs.Ytgidaifoiljgoaa
open Go.RowKit
set_option linter.unusedVariables false
set_option linter.unusedSimpArgs false
theorem w64_nat (a : Nat) (h : a < 18446744073709551616) : IntKind.u64.wrap (a : Int) = (a : Int) := by rw [IntKind.wrap_u64]; omega
theorem w64_mod (a : Nat) : IntKind.u64.wrap (a : Int) = ((a % 18446744073709551616 : Nat) : Int) := by rw [IntKind.wrap_u64]; omega
theorem spell_shl (a s : Nat) : (a : Int) * 2 ^ s = ((a * 2 ^ s : Nat) : Int) := by rw [Int.natCast_mul, Int.natCast_pow]; rfl
theorem spell_shr (a s : Nat) : (a : Int) / 2 ^ s = ((a / 2 ^ s : Nat) : Int) := by rw [Int.natCast_ediv, Int.natCast_pow]; rfl
theorem spell_and (a : Nat) (h : a < 18446744073709551616) : bits BinOp.and IntKind.u64 (a : Int) 4294967295 = ((a % 4294967296 : Nat) : Int) := by
  have := bits_and_u64_nat a 4294967295 h (by omega)
  rw [show (4294967295 : Nat) = 2 ^ 32 - 1 from rfl, Nat.and_two_pow_sub_one_eq_mod] at this
  exact this
theorem spell_or (a b s : Nat) (ha : a * 2 ^ s < 18446744073709551616) (hb : b < 2 ^ s) (hs : 2 ^ s ≤ 18446744073709551616) : bits BinOp.or IntKind.u64 ((a * 2 ^ s : Nat) : Int) (b : Int) = ((a * 2 ^ s + b : Nat) : Int) := by
  rw [bits_or_u64_nat _ _ ha (by omega), or_parts a s b hb]
theorem spell_quo (a b : Nat) (ha : a < 18446744073709551616) : IntKind.u64.wrap ((a : Int).tdiv (b : Int)) = ((a / b : Nat) : Int) := by
  rw [show (a : Int).tdiv (b : Int) = ((a / b : Nat) : Int) from rfl]
  exact w64_nat _ (Nat.lt_of_le_of_lt (Nat.div_le_self _ _) ha)
theorem spell_quo2 (a b : Nat) (ha : a < 18446744073709551616) : IntKind.u64.wrap ((a : Int) / (b : Int)) = ((a / b : Nat) : Int) := by
  rw [show (a : Int) / (b : Int) = ((a / b : Nat) : Int) from rfl]
  exact w64_nat _ (Nat.lt_of_le_of_lt (Nat.div_le_self _ _) ha)
theorem spell_mul (a b : Nat) (h : a * b < 18446744073709551616) : IntKind.u64.wrap ((a : Int) * (b : Int)) = ((a * b : Nat) : Int) := by
  rw [← Int.natCast_mul, w64_nat _ h]
theorem spell_two (r w : Nat) (h : r < 4294967296) (hw : w < 4294967296) : IntKind.u64.wrap (IntKind.u64.wrap (4294967296 * (r : Int)) + (w : Int)) = ((r * 4294967296 + w : Nat) : Int) := by
  rw [show (4294967296 : Int) * (r : Int) = ((r * 4294967296 : Nat) : Int) by omega, w64_nat _ (by omega), ← Int.natCast_add, w64_nat _ (by omega)]
theorem spell_un (u w d y r : Nat) (h : d * y + r = u * 4294967296 + w) (hr : r < 18446744073709551616) :
    IntKind.u64.wrap (IntKind.u64.wrap (IntKind.u64.wrap ((u : Int) * 4294967296) + (w : Int)) - IntKind.u64.wrap ((d : Int) * (y : Int))) = ((r : Nat) : Int) := by
  rw [← Int.natCast_mul]
  generalize d * y = p at h
  simp only [IntKind.wrap_u64]
  omega
theorem spell_rest (a b : Nat) (ha : a < 18446744073709551616) : IntKind.u64.wrap ((a : Int) - IntKind.u64.wrap (((a / b : Nat) : Int) * (b : Int))) = ((a % b : Nat) : Int) := by
  have h1 : a / b * b ≤ a := Nat.div_mul_le_self _ _
  have h2 := Nat.div_add_mod a b
  rw [Nat.mul_comm] at h2
  rw [← Int.natCast_mul, w64_nat _ (by omega), show (a : Int) - ((a / b * b : Nat) : Int) = ((a % b : Nat) : Int) by omega]
  exact w64_nat _ (by omega)
set_option maxRecDepth 100000 in
theorem div64_zero (lo y : Nat) (w : World) (hlo : lo < 18446744073709551616) (hy0 : 0 < y) (hy : y < 18446744073709551616) :
    Calls Try.prog 83 #[.int .u64 0, .int .u64 lo, .int .u64 y] w fun e w' => e = .returned (.tuple #[.int .u64 ((lo / y : Nat) : Int), .int .u64 ((lo % y : Nat) : Int)]) ∧ Below w.heap.size w w' := by
  have h1 : ((y : Int) == 0) = false := by rw [beq_eq_false_iff_ne]; omega
  have h2 : decide ((y : Int) ≤ 0) = false := decide_eq_false (by omega)
  go_enter Try.func83, Try.ntmps83
  go_wp2_with fail
  go_quiet (fail)
  go_wp2_with fail
  go_ret2
  have hd : lo / y ≤ lo := Nat.div_le_self _ _
  refine ⟨?_, below_drewN (Below.refl _ _) _⟩
  rw [show (lo : Int) / (y : Int) = ((lo / y : Nat) : Int) from rfl, w64_nat _ (by omega)]
  rfl
set_option maxHeartbeats 1000000 in
set_option maxRecDepth 100000 in
theorem div64_pos (hi lo y : Nat) (w : World) (hlo : lo < 18446744073709551616) (h0 : 0 < hi) (hhi : hi < y) (hy : y < 18446744073709551616) :
    Calls Try.prog 83 #[.int .u64 hi, .int .u64 lo, .int .u64 y] w fun e w' => e = .returned (.tuple #[.int .u64 (((hi * 18446744073709551616 + lo) / y : Nat) : Int), .int .u64 (((hi * 18446744073709551616 + lo) % y : Nat) : Int)]) ∧ Below w.heap.size w w' := by
  have h1 : ((y : Int) == 0) = false := by rw [beq_eq_false_iff_ne]; omega
  have h2 : decide (y ≤ hi) = false := decide_eq_false (by omega)
  have h3 : ((hi : Int) == 0) = false := by rw [beq_eq_false_iff_ne]; omega
  go_enter Try.func83, Try.ntmps83
  go_wp2_with fail
  refine (Try.bits_LeadingZeros64 y w (by omega) (by omega)).mono ?_
  rintro e w' ⟨rfl, rfl⟩
  rw [Int.toNat_natCast]
  obtain ⟨s, hs⟩ : ∃ s, s = 64 - Lib.bitLen y := ⟨_, rfl⟩
  have hbl : Lib.bitLen y ≤ 64 := Lib.bitLen_le y 64 (by omega) (by omega)
  have HS := hide hs
  rw [show (64 : Int) - (Lib.bitLen y : Int) = (s : Int) by omega]
  have hs64 : s ≤ 64 := by omega
  clear hs hbl
  have hy0 : 0 < y := by omega
  -- normalized
  obtain ⟨hsl, hsg, hs63⟩ : y * 2 ^ s < 18446744073709551616 ∧ 9223372036854775808 ≤ y * 2 ^ s ∧ s < 64 := by
    obtain ⟨a1, a2, a3⟩ := Lib.bitLenAux_bounds 64 y (by omega) (by omega)
    have hs := HS.out
    have hbl : Lib.bitLen y ≤ 64 := Lib.bitLen_le y 64 (by omega) (by omega)
    change 1 ≤ Lib.bitLen y at a1
    change 2 ^ (Lib.bitLen y - 1) ≤ y at a2
    change y < 2 ^ Lib.bitLen y at a3
    generalize Lib.bitLen y = L at *
    have e1 : 2 ^ L * 2 ^ s = 18446744073709551616 := by rw [← Nat.pow_add, show L + s = 64 by omega]
    have e2 : 2 ^ (L - 1) * 2 ^ s = 9223372036854775808 := by rw [← Nat.pow_add, show L - 1 + s = 63 by omega]
    have hp := Nat.two_pow_pos s
    refine ⟨?_, ?_, by omega⟩
    · rw [← e1]; exact Nat.mul_lt_mul_of_pos_right a3 hp
    · rw [← e2]; exact Nat.mul_le_mul_right _ a2
  have hhs : hi * 2 ^ s < 18446744073709551616 := Nat.lt_of_lt_of_le (Nat.mul_lt_mul_of_pos_right hhi (Nat.two_pow_pos s)) (Nat.le_of_lt hsl)
  have hle : 2 ^ s ≤ 18446744073709551616 := by
    have := Nat.pow_le_pow_right (n := 2) (by omega) (show s ≤ 64 by omega)
    exact this
  have hlp : lo / 2 ^ (64 - s) < 2 ^ s := by
    rw [Nat.div_lt_iff_lt_mul (Nat.two_pow_pos _), ← Nat.pow_add, show s + (64 - s) = 64 by omega]
    exact hlo
  have hparts := shift_parts hi lo s hs63 hlo hhs
  have hlt : hi * 2 ^ s + lo / 2 ^ (64 - s) < y * 2 ^ s := by
    have h5 : hi * 2 ^ s + 2 ^ s ≤ y * 2 ^ s := by
      have := Nat.mul_le_mul_right (2 ^ s) (show hi + 1 ≤ y by omega)
      rw [Nat.add_mul, Nat.one_mul] at this
      exact this
    omega
  have E1 : IntKind.u64.wrap ((y : Int) * 2 ^ s) = ((y * 2 ^ s : Nat) : Int) := by rw [spell_shl, w64_nat _ hsl]
  have E2 : bits BinOp.or IntKind.u64 (IntKind.u64.wrap ((hi : Int) * 2 ^ s)) ((lo : Int) / 2 ^ (64 - s)) = ((hi * 2 ^ s + lo / 2 ^ (64 - s) : Nat) : Int) := by
    rw [spell_shl, w64_nat _ hhs, spell_shr, spell_or hi _ s hhs hlp hle]
  have E3 : IntKind.u64.wrap ((lo : Int) * 2 ^ s) = ((lo * 2 ^ s % 18446744073709551616 : Nat) : Int) := by rw [spell_shl, w64_mod]
  have E1 := hide E1
  have E2 := hide E2
  have E3 := hide E3
  have HP := hide hparts
  have HSG := hide hsg
  have HLT := hide hlt
  have HSD := hide (shift_div (hi * 18446744073709551616 + lo) y s)
  clear hsg hhs hle hlp hparts hlt HS
  have e1 := E1.out
  have e2 := E2.out
  have e3 := E3.out
  have hsg := HSG.out
  have hlt := HLT.out
  have hparts := HP.out
  have hsd := HSD.out
  clear E1 E2 E3 HSG HLT HP HSD
  generalize hY : y * 2 ^ s = Y at *
  generalize hU : hi * 2 ^ s + lo / 2 ^ (64 - s) = U at *
  generalize hL : lo * 2 ^ s % 18446744073709551616 = L at *
  have hYl : Y < 18446744073709551616 := by omega
  have hLl : L < 18446744073709551616 := by omega
  have HE1 := hide e1
  have HE2 := hide e2
  have HE3 := hide e3
  have HP := hide hparts
  have HSD := hide hsd
  have HYY := hide hY
  clear e1 e2 e3 hparts hsd hY hU hL
  go_upto_region 15 with (fail)
  clear E1 E2 E3 HE1 HE2 HE3
  have EH : (Y : Int) / 4294967296 = ((Y / 4294967296 : Nat) : Int) := rfl
  have EO := spell_and Y hYl
  have EW : (L : Int) / 4294967296 = ((L / 4294967296 : Nat) : Int) := rfl
  have EV := spell_and L hLl
  rw [EH, EO, EW, EV]
  have hyo : Y = Y / 4294967296 * 4294967296 + Y % 4294967296 := by omega
  have hlw : L = L / 4294967296 * 4294967296 + L % 4294967296 := by omega
  have hh1 : 2147483648 ≤ Y / 4294967296 := by omega
  have hh2 : Y / 4294967296 < 4294967296 := by omega
  have ho : Y % 4294967296 < 4294967296 := by omega
  have hw1 : L / 4294967296 < 4294967296 := by omega
  have hw0 : L % 4294967296 < 4294967296 := by omega
  clear EH EO EW EV
  generalize Y / 4294967296 = h at *
  generalize Y % 4294967296 = o at *
  generalize L / 4294967296 = w1 at *
  generalize L % 4294967296 = w0 at *
  have hU : U < 18446744073709551616 := by omega
  have EQ := spell_quo U h hU
  have ER := spell_rest U h hU
  have HYO := hide hyo
  have HLW := hide hlw
  have hYp : 0 < Y := by omega
  have hhz : ((h : Int) == 0) = false := by rw [beq_eq_false_iff_ne]; omega
  have hhn : ¬ (h : Int) = 0 := by omega
  clear hyo hlw h1 h2 h3
  go_upto_block 0 with (fail)
  clear EQ ER
  have EQ := spell_quo2 U h hU
  have ER := spell_rest U h hU
  rw [EQ, ER]
  clear EQ ER
  go_cut [15] from 19 (fun q wc => q = .int .u64 ((dgt U w1 Y : Nat) : Int) ∧ wc = w')
  case first =>
    have hwB := hw1
    have hUY := hlt
    go_wp2_with fail
    go_loop [15, 16] (fun a b => ∃ q r : Nat, a = .int .u64 q ∧ b = .int .u64 r ∧ Hid (U = q * h + r) ∧ dgt U w1 Y ≤ q ∧ q ≤ 4294967297 ∧ r < 4294967296) (fun a _ => (intOf a).toNat)
    case atStart => exact ⟨U / h, U % h, rfl, rfl, hide (by have := Nat.div_add_mod U h; rw [Nat.mul_comm] at this; exact this.symm), guess_ge hYp HYO.out (by omega) hwB, guess_first (by omega) HYO.out hh1 ho hUY, Nat.lt_trans (Nat.mod_lt _ (by omega)) hh2⟩
    case round =>
      obtain ⟨q, r, rfl, rfl, HQ, hge, hle, hr⟩ := hrel
      have HG := hide (guess_gt (w := w1) hYp HYO.out HQ.out)
      by_cases c : dgt U w1 Y < q
      · have hq1 : IntKind.u64.wrap ((q : Int) - 1) = ((q - 1 : Nat) : Int) := by rw [show (q : Int) - 1 = ((q - 1 : Nat) : Int) by omega, w64_nat _ (by omega)]
        have hr1 : IntKind.u64.wrap ((r : Int) + (h : Int)) = ((r + h : Nat) : Int) := by rw [← Int.natCast_add, w64_nat _ (by omega)]
        have HQ2 := hide (show U = (q - 1) * h + (r + h) by
          have := HQ.out
          obtain ⟨k, rfl⟩ : ∃ k, q = k + 1 := ⟨q - 1, by omega⟩
          rw [Nat.add_mul] at this
          rw [Nat.add_sub_cancel]
          omega)
        have hgt : dgt U w1 Y ≤ q - 1 := by omega
        have hfar : 4294967296 ≤ r + h → q - 1 ≤ dgt U w1 Y := fun h5 => guess_far hYp HYO.out ho HQ2.out h5 (by omega)
        have HFAR := hide hfar
        have HC : Hid (w1 + r * 4294967296 < q * o) := hide (by have := HG.out.2 c; omega)
        have hqp : 1 ≤ q := by omega
        clear hfar c hge HQ HG
        generalize hd : dgt U w1 Y = d at *
        clear hd
        by_cases c3 : 4294967296 ≤ r + h
        · have t3 : decide ((4294967296 : Int) ≤ (r : Int) + (h : Int)) = true := decide_eq_true (by omega)
          have t3' : decide (4294967296 ≤ r + h) = true := decide_eq_true c3
          have hdq := HFAR.out c3
          have hfin : d = q - 1 := by omega
          clear c3 hdq HFAR
          by_cases c2 : 4294967296 ≤ q
          · have t2 : decide ((4294967296 : Int) ≤ (q : Int)) = true := decide_eq_true (by omega)
            have HF := hide hfin
            clear hfin c2
            go_wp2_with fail
            go_meet
            case rel => exact ⟨by rw [HF.out], rfl⟩
          · have t2 : decide ((4294967296 : Int) ≤ (q : Int)) = false := decide_eq_false (by omega)
            have hm := spell_mul q o (Nat.lt_of_le_of_lt (Nat.mul_le_mul (show q ≤ 4294967295 by omega) (show o ≤ 4294967295 by omega)) (by omega))
            have ht := spell_two r w1 hr hwB
            have hcc := HC.out
            generalize q * o = p at hm hcc
            have t4 : decide ((r : Int) * 4294967296 + (w1 : Int) < (p : Int)) = true := decide_eq_true (by omega)
            have t4' : decide (r * 4294967296 + w1 < p) = true := decide_eq_true (by omega)
            have t5 : decide (4294967296 * (r : Int) + (w1 : Int) < (p : Int)) = true := decide_eq_true (by omega)
            have HF := hide hfin
            clear hfin c2 hcc
            go_wp2_with fail
            go_meet
            case rel => exact ⟨by rw [HF.out], rfl⟩
        · have t3 : decide ((4294967296 : Int) ≤ (r : Int) + (h : Int)) = false := decide_eq_false (by omega)
          have t3' : decide (4294967296 ≤ r + h) = false := decide_eq_false c3
          by_cases c2 : 4294967296 ≤ q
          · have t2 : decide ((4294967296 : Int) ≤ (q : Int)) = true := decide_eq_true (by omega)
            go_wp2_with fail
            go_round
            case rel => exact ⟨q - 1, r + h, by first | rfl | exact congrArg _ hq1, by first | rfl | exact congrArg _ hr1, HQ2, hgt, by omega, by omega⟩
            case measure => simp [intOf]; omega
          · have t2 : decide ((4294967296 : Int) ≤ (q : Int)) = false := decide_eq_false (by omega)
            have hm := spell_mul q o (Nat.lt_of_le_of_lt (Nat.mul_le_mul (show q ≤ 4294967295 by omega) (show o ≤ 4294967295 by omega)) (by omega))
            have ht := spell_two r w1 hr hwB
            have hcc := HC.out
            generalize q * o = p at hm hcc
            have t4 : decide ((r : Int) * 4294967296 + (w1 : Int) < (p : Int)) = true := decide_eq_true (by omega)
            have t4' : decide (r * 4294967296 + w1 < p) = true := decide_eq_true (by omega)
            have t5 : decide (4294967296 * (r : Int) + (w1 : Int) < (p : Int)) = true := decide_eq_true (by omega)
            clear hcc
            go_wp2_with fail
            go_round
            case rel => exact ⟨q - 1, r + h, by first | rfl | exact congrArg _ hq1, by first | rfl | exact congrArg _ hr1, HQ2, hgt, by omega, by omega⟩
            case measure => simp [intOf]; omega
      · have hqd : dgt U w1 Y = q := by omega
        have hqB : q < 4294967296 := by rw [← hqd]; exact dgt_lt hYp hUY hwB
        have t2 : decide ((4294967296 : Int) ≤ (q : Int)) = false := decide_eq_false (by omega)
        have hm := spell_mul q o (Nat.lt_of_le_of_lt (Nat.mul_le_mul (show q ≤ 4294967295 by omega) (show o ≤ 4294967295 by omega)) (by omega))
        have ht := spell_two r w1 hr hwB
        have hcc : ¬ (r * 4294967296 + w1 < q * o) := fun h5 => c (HG.out.1 h5)
        generalize q * o = p at hm hcc
        have t4 : decide ((r : Int) * 4294967296 + (w1 : Int) < (p : Int)) = false := decide_eq_false (by omega)
        have t4' : decide (r * 4294967296 + w1 < p) = false := decide_eq_false (by omega)
        have t5 : decide (4294967296 * (r : Int) + (w1 : Int) < (p : Int)) = false := decide_eq_false (by omega)
        have HF := hide hqd
        clear hqd hcc c hge HG HQ
        go_wp2_with fail
        go_meet
        case rel => exact ⟨by rw [HF.out], rfl⟩
  case rest =>
    obtain ⟨rfl, rfl⟩ := hcut
    have HV := hide (dgt_mul U w1 Y)
    have hVY := dgr_lt (u := U) (w := w1) hYp
    generalize hq1v : dgt U w1 Y = q1 at *
    generalize hVv : dgr U w1 Y = V at *
    have HQV := hide hq1v
    have HVV := hide hVv
    have EU := spell_un U w1 q1 Y V HV.out (by omega)
    clear hq1v hVv
    have hVl : V < 18446744073709551616 := by omega
    have EUH := hide EU
    clear EU
    go_upto_region 22 with (fail)
    rw [EUH.out]
    have EQ := spell_quo2 V h hVl
    have ER := spell_rest V h hVl
    go_upto_block 2 with (fail)
    clear EQ ER
    go_cut [18] from 19 (fun q w2 => q = .int .u64 ((dgt V w0 Y : Nat) : Int) ∧ w2 = wc)
    case first =>
      have hwB := hw0
      have hUY := hVY
      go_wp2_with fail
      go_loop [18, 16] (fun a b => ∃ q r : Nat, a = .int .u64 q ∧ b = .int .u64 r ∧ Hid (V = q * h + r) ∧ dgt V w0 Y ≤ q ∧ q ≤ 4294967297 ∧ r < 4294967296) (fun a _ => (intOf a).toNat)
      case atStart => exact ⟨V / h, V % h, by first | rfl | exact congrArg (Value.int .u64) (spell_quo2 V h hVl), by first | rfl | exact congrArg (Value.int .u64) (spell_rest V h hVl), hide (by have := Nat.div_add_mod V h; rw [Nat.mul_comm] at this; exact this.symm), guess_ge hYp HYO.out (by omega) hwB, guess_first (by omega) HYO.out hh1 ho hUY, Nat.lt_trans (Nat.mod_lt _ (by omega)) hh2⟩
      case round =>
        obtain ⟨q, r, rfl, rfl, HQ, hge, hle, hr⟩ := hrel
        have HG := hide (guess_gt (w := w0) hYp HYO.out HQ.out)
        by_cases c : dgt V w0 Y < q
        · have hq1 : IntKind.u64.wrap ((q : Int) - 1) = ((q - 1 : Nat) : Int) := by rw [show (q : Int) - 1 = ((q - 1 : Nat) : Int) by omega, w64_nat _ (by omega)]
          have hr1 : IntKind.u64.wrap ((r : Int) + (h : Int)) = ((r + h : Nat) : Int) := by rw [← Int.natCast_add, w64_nat _ (by omega)]
          have HQ2 := hide (show V = (q - 1) * h + (r + h) by
            have := HQ.out
            obtain ⟨k, rfl⟩ : ∃ k, q = k + 1 := ⟨q - 1, by omega⟩
            rw [Nat.add_mul] at this
            rw [Nat.add_sub_cancel]
            omega)
          have hgt : dgt V w0 Y ≤ q - 1 := by omega
          have hfar : 4294967296 ≤ r + h → q - 1 ≤ dgt V w0 Y := fun h5 => guess_far hYp HYO.out ho HQ2.out h5 (by omega)
          have HFAR := hide hfar
          have HC : Hid (w0 + r * 4294967296 < q * o) := hide (by have := HG.out.2 c; omega)
          have hqp : 1 ≤ q := by omega
          clear hfar c hge HQ HG
          generalize hd : dgt V w0 Y = d at *
          clear hd
          by_cases c3 : 4294967296 ≤ r + h
          · have t3 : decide ((4294967296 : Int) ≤ (r : Int) + (h : Int)) = true := decide_eq_true (by omega)
            have t3' : decide (4294967296 ≤ r + h) = true := decide_eq_true c3
            have hdq := HFAR.out c3
            have hfin : d = q - 1 := by omega
            clear c3 hdq HFAR
            by_cases c2 : 4294967296 ≤ q
            · have t2 : decide ((4294967296 : Int) ≤ (q : Int)) = true := decide_eq_true (by omega)
              have HF := hide hfin
              clear hfin c2
              go_wp2_with fail
              go_meet
              case rel => exact ⟨by rw [HF.out], rfl⟩
            · have t2 : decide ((4294967296 : Int) ≤ (q : Int)) = false := decide_eq_false (by omega)
              have hm := spell_mul q o (Nat.lt_of_le_of_lt (Nat.mul_le_mul (show q ≤ 4294967295 by omega) (show o ≤ 4294967295 by omega)) (by omega))
              have ht := spell_two r w0 hr hwB
              have hcc := HC.out
              generalize q * o = p at hm hcc
              have t4 : decide ((r : Int) * 4294967296 + (w0 : Int) < (p : Int)) = true := decide_eq_true (by omega)
              have t4' : decide (r * 4294967296 + w0 < p) = true := decide_eq_true (by omega)
              have t5 : decide (4294967296 * (r : Int) + (w0 : Int) < (p : Int)) = true := decide_eq_true (by omega)
              have HF := hide hfin
              clear hfin c2 hcc
              go_wp2_with fail
              go_meet
              case rel => exact ⟨by rw [HF.out], rfl⟩
          · have t3 : decide ((4294967296 : Int) ≤ (r : Int) + (h : Int)) = false := decide_eq_false (by omega)
            have t3' : decide (4294967296 ≤ r + h) = false := decide_eq_false c3
            by_cases c2 : 4294967296 ≤ q
            · have t2 : decide ((4294967296 : Int) ≤ (q : Int)) = true := decide_eq_true (by omega)
              go_wp2_with fail
              go_round
              case rel => exact ⟨q - 1, r + h, by first | rfl | exact congrArg _ hq1, by first | rfl | exact congrArg _ hr1, HQ2, hgt, by omega, by omega⟩
              case measure => simp [intOf]; omega
            · have t2 : decide ((4294967296 : Int) ≤ (q : Int)) = false := decide_eq_false (by omega)
              have hm := spell_mul q o (Nat.lt_of_le_of_lt (Nat.mul_le_mul (show q ≤ 4294967295 by omega) (show o ≤ 4294967295 by omega)) (by omega))
              have ht := spell_two r w0 hr hwB
              have hcc := HC.out
              generalize q * o = p at hm hcc
              have t4 : decide ((r : Int) * 4294967296 + (w0 : Int) < (p : Int)) = true := decide_eq_true (by omega)
              have t4' : decide (r * 4294967296 + w0 < p) = true := decide_eq_true (by omega)
              have t5 : decide (4294967296 * (r : Int) + (w0 : Int) < (p : Int)) = true := decide_eq_true (by omega)
              clear hcc
              go_wp2_with fail
              go_round
              case rel => exact ⟨q - 1, r + h, by first | rfl | exact congrArg _ hq1, by first | rfl | exact congrArg _ hr1, HQ2, hgt, by omega, by omega⟩
              case measure => simp [intOf]; omega
        · have hqd : dgt V w0 Y = q := by omega
          have hqB : q < 4294967296 := by rw [← hqd]; exact dgt_lt hYp hUY hwB
          have t2 : decide ((4294967296 : Int) ≤ (q : Int)) = false := decide_eq_false (by omega)
          have hm := spell_mul q o (Nat.lt_of_le_of_lt (Nat.mul_le_mul (show q ≤ 4294967295 by omega) (show o ≤ 4294967295 by omega)) (by omega))
          have ht := spell_two r w0 hr hwB
          have hcc : ¬ (r * 4294967296 + w0 < q * o) := fun h5 => c (HG.out.1 h5)
          generalize q * o = p at hm hcc
          have t4 : decide ((r : Int) * 4294967296 + (w0 : Int) < (p : Int)) = false := decide_eq_false (by omega)
          have t4' : decide (r * 4294967296 + w0 < p) = false := decide_eq_false (by omega)
          have t5 : decide (4294967296 * (r : Int) + (w0 : Int) < (p : Int)) = false := decide_eq_false (by omega)
          have HF := hide hqd
          clear hqd hcc c hge HG HQ
          go_wp2_with fail
          go_meet
          case rel => exact ⟨by rw [HF.out], rfl⟩
    case rest =>
      obtain ⟨rfl, rfl⟩ := hcut
      have HV2 := hide (dgt_mul V w0 Y)
      have hRY := dgr_lt (u := V) (w := w0) hYp
      have HTD := hide (two_digits hYp U w1 w0 ((hi * 18446744073709551616 + lo) * 2 ^ s) (by rw [HP.out, HLW.out]; omega))
      have hd0 := dgt_lt (u := V) (w := w0) hYp hVY hw0
      have hd1 := dgt_lt (u := U) (w := w1) hYp hlt hw1
      rw [HQV.out, HVV.out] at HTD
      rw [HQV.out] at hd1
      generalize hq0v : dgt V w0 Y = q0 at *
      generalize hRv : dgr V w0 Y = R at *
      clear hq0v hRv
      have EU := spell_un V w0 q0 Y R HV2.out (by omega)
      have EUH := hide EU
      clear EU
      go_wp2_with fail
      go_ret2
      refine ⟨?_, Below.refl _ _⟩
      rw [EUH.out, spell_shr]
      obtain ⟨e1, e2⟩ := HTD.out
      obtain ⟨e3, e4⟩ := HSD.out
      rw [e3] at e1
      rw [e4] at e2
      rw [e1, ← e2, Nat.mul_div_cancel _ (Nat.two_pow_pos s)]
      rw [show (q1 : Int) * 4294967296 + (q0 : Int) = ((q1 * 4294967296 + q0 : Nat) : Int) by omega]
      rfl
theorem div64_any (hi lo y : Nat) (w : World) (hlo : lo < 18446744073709551616) (hhi : hi < y) (hy : y < 18446744073709551616) :
    Calls Try.prog 83 #[.int .u64 hi, .int .u64 lo, .int .u64 y] w fun e w' => e = .returned (.tuple #[.int .u64 (((hi * 18446744073709551616 + lo) / y : Nat) : Int), .int .u64 (((hi * 18446744073709551616 + lo) % y : Nat) : Int)]) ∧ Below w.heap.size w w' := by
  rcases Nat.eq_zero_or_pos hi with h | h
  · subst h
    rw [Nat.zero_mul, Nat.zero_add]
    exact div64_zero lo y w hlo hhi hy
  · exact div64_pos hi lo y w hlo h hhi hy
end Go.Proofs.Ytgidaifoiljgoaa
/- safe.Ratio of numbers that are not negative; drift.Low, High, Slack. -/
namespace Go.Proofs.Ytgidaifoiljgoaa
open Go.RowKit
set_option linter.unusedVariables false
set_option linter.unusedSimpArgs false
set_option maxRecDepth 100000 in
theorem sizeN_any (a : Nat) (w : World) (h : a ≤ 9223372036854775807) : Calls Try.prog 82 #[.int .i64 a] w fun e w' => e = .returned (.int .u64 a) ∧ w = w' := by
  have h1 : decide ((a : Int) < 0) = false := decide_eq_false (by omega)
  have h2 := w64_nat a (by omega)
  go_enter Try.func82, Try.ntmps82
  go_wp2
  go_ret
  exact ⟨rfl, rfl⟩
set_option maxRecDepth 100000 in
theorem signedN_any (a : Nat) (w : World) (h : a ≤ 9223372036854775807) : Calls Try.prog 84 #[.int .u64 a, .bool false] w fun e w' => e = .returned (.tuple #[.int .i64 a, .int .i64 0]) ∧ w = w' := by
  have h1 : decide (9223372036854775807 < (a : Int)) = false := decide_eq_false (by omega)
  have h2 : wrap64 (a : Int) = (a : Int) := IntWalk.wrap64_in _ (by constructor <;> omega)
  go_enter Try.func84, Try.ntmps84
  go_wp2
  go_ret2
  exact ⟨rfl, rfl⟩
/-- The ratio, down or up. -/
def ratN (a b c : Nat) (up : Bool) : Nat := if up = true ∧ a * b % c ≠ 0 then a * b / c + 1 else a * b / c
set_option maxHeartbeats 1000000 in
set_option maxRecDepth 100000 in
theorem ratioN_any (a b c : Nat) (up : Bool) (w : World) (ha : a ≤ 9223372036854775807) (hb : b ≤ 9223372036854775807) (hc0 : 1 ≤ c) (hc : c ≤ 9223372036854775807) (hq : a * b / c < 9223372036854775807) :
    Calls Try.prog 65 #[.int .i64 a, .int .i64 b, .int .i64 c, .bool up] w fun e w' => e = .returned (.tuple #[.int .i64 (ratN a b c up), .int .i64 0]) ∧ Below w.heap.size w w' := by
  have h1 : decide ((a : Int) < 0) = false := decide_eq_false (by omega)
  have h2 : decide ((b : Int) < 0) = false := decide_eq_false (by omega)
  have h3 : decide ((c : Int) < 1) = false := decide_eq_false (by omega)
  have hw := w64_nat c (by omega)
  have HM := hide (Try.bits_Mul64 a b (by omega) (by omega))
  have hpq := (Nat.div_lt_iff_lt_mul (show 0 < c by omega)).1 hq
  have hhi : a * b / 18446744073709551616 < c := by rw [Nat.div_lt_iff_lt_mul (by omega)]; omega
  have HD := hide (fun w => div64_any (a * b / 18446744073709551616) (a * b % 18446744073709551616) c w (by omega) hhi (by omega))
  rw [show a * b / 18446744073709551616 * 18446744073709551616 + a * b % 18446744073709551616 = a * b by omega] at HD
  have HR : Hid (ratN a b c up = if up = true ∧ a * b % c ≠ 0 then a * b / c + 1 else a * b / c) := hide rfl
  generalize ratN a b c up = R at *
  have hrest : a * b % c < 18446744073709551616 := Nat.lt_trans (Nat.mod_lt _ (by omega)) (by omega)
  generalize a * b / 18446744073709551616 = H at *
  generalize a * b % 18446744073709551616 = L at *
  generalize a * b / c = Q at *
  generalize a * b % c = T at *
  have h4 : decide (c ≤ H) = false := decide_eq_false (by omega)
  have h5 : decide (9223372036854775808 < (Q : Int)) = false := decide_eq_false (by omega)
  clear hpq
  cases up with
  | false =>
    have hR := HR.out
    rw [if_neg (by simp)] at hR
    subst hR
    clear HR
    have HS := hide (fun w => signedN_any R w (by omega))
    go_enter Try.func65, Try.ntmps65
    go_wp2_with (first
      | (go_at_call 82; refine (sizeN_any _ _ (by assumption)).mono ?_; rintro e w' ⟨rfl, rfl⟩)
      | (go_at_call 81; refine (HM.out _).mono ?_; rintro e w' ⟨rfl, rfl⟩)
      | (go_at_call 83; refine (HD.out _).mono ?_; rintro e w1 ⟨rfl, hb1⟩)
      | (go_at_call 84; refine (HS.out _).mono ?_; rintro e w' ⟨rfl, rfl⟩))
    all_goals (go_ret2; exact ⟨rfl, hb1⟩)
  | true =>
    by_cases hT : T = 0
    · subst hT
      have hR := HR.out
      rw [if_neg (by simp)] at hR
      subst hR
      clear HR
      have HS := hide (fun w => signedN_any R w (by omega))
      go_enter Try.func65, Try.ntmps65
      go_wp2_with (first
      | (go_at_call 82; refine (sizeN_any _ _ (by assumption)).mono ?_; rintro e w' ⟨rfl, rfl⟩)
      | (go_at_call 81; refine (HM.out _).mono ?_; rintro e w' ⟨rfl, rfl⟩)
      | (go_at_call 83; refine (HD.out _).mono ?_; rintro e w1 ⟨rfl, hb1⟩)
      | (go_at_call 84; refine (HS.out _).mono ?_; rintro e w' ⟨rfl, rfl⟩))
      all_goals (go_ret2; exact ⟨rfl, hb1⟩)
    · have hR := HR.out
      rw [if_pos ⟨rfl, hT⟩] at hR
      have h6 : ((T : Int) == 0) = false := by rw [beq_eq_false_iff_ne]; omega
      have h7 : ((T : Int) != 0) = true := by rw [bne_iff_ne]; omega
      have hq1 : IntKind.u64.wrap ((Q : Int) + 1) = (R : Int) := by rw [hR, show (Q : Int) + 1 = ((Q + 1 : Nat) : Int) by omega, w64_nat _ (by omega)]
      have HS := hide (fun w => signedN_any R w (by omega))
      have HR2 := hide hR
      clear HR hT hR
      go_enter Try.func65, Try.ntmps65
      go_wp2_with (first
      | (go_at_call 82; refine (sizeN_any _ _ (by assumption)).mono ?_; rintro e w' ⟨rfl, rfl⟩)
      | (go_at_call 81; refine (HM.out _).mono ?_; rintro e w' ⟨rfl, rfl⟩)
      | (go_at_call 83; refine (HD.out _).mono ?_; rintro e w1 ⟨rfl, hb1⟩))
      refine (HS.out _).mono ?_
      rintro e w' ⟨rfl, rfl⟩
      go_wp2_with fail
      go_ret2
      exact ⟨rfl, hb1⟩
def okRate (r : Int) : Bool := decide (0 ≤ r ∧ r ≤ 100000)
theorem rate_any (r : Int) (w : World) : Calls Try.prog 64 #[.int .i64 r] w fun e w' => e = .returned (.bool (okRate r)) ∧ w = w' := by
  by_cases h : 0 ≤ r
  · have h1 : decide (0 ≤ r) = true := decide_eq_true h
    have HE := hide (show okRate r = decide (r ≤ 100000) by unfold okRate; simp [h])
    go_enter Try.func64, Try.ntmps64
    go_wp2
    go_ret
    exact ⟨ret_bool HE.out.symm, rfl⟩
  · have h1 : decide (0 ≤ r) = false := decide_eq_false h
    have HE := hide (show okRate r = false by unfold okRate; simp [h])
    go_enter Try.func64, Try.ntmps64
    go_wp2
    go_ret
    exact ⟨ret_bool HE.out.symm, rfl⟩
def lowZ (x r : Int) : Int := if 0 < x then max 1 (ratN (x - 1).toNat 1000000 (1000000 + r).toNat true : Int) else -(ratN (1 - x).toNat 1000000 (1000000 - r).toNat false : Int)
def slackZ (a r : Int) : Int := ratN a.toNat r.toNat (1000000 - r).toNat true
def nearX (x : Int) : Bool := decide (-4611686018427387904 ≤ x ∧ x ≤ 4611686018427387904)
theorem low_bound1 (x r : Int) (hx : 0 < x) (hx2 : x ≤ 4611686018427387904) (hr : 0 ≤ r) : (x - 1).toNat * 1000000 / (1000000 + r).toNat < 9223372036854775807 := by
  rw [Nat.div_lt_iff_lt_mul (by omega)]
  have h1 : 9223372036854775807 * 1000000 ≤ 9223372036854775807 * (1000000 + r).toNat := Nat.mul_le_mul_left _ (by omega)
  omega
theorem low_bound2 (x r : Int) (hx : x ≤ 0) (hx2 : -4611686018427387904 ≤ x) (hr : 0 ≤ r) (hr2 : r ≤ 100000) : (1 - x).toNat * 1000000 / (1000000 - r).toNat ≤ 5124095576030431006 := by
  refine Nat.le_of_lt_succ ((Nat.div_lt_iff_lt_mul (by omega)).2 ?_)
  have h1 : (5124095576030431006 + 1) * 900000 ≤ (5124095576030431006 + 1) * (1000000 - r).toNat := Nat.mul_le_mul_left _ (by omega)
  omega
theorem ratN_bounds (a b c : Nat) (up : Bool) : a * b / c ≤ ratN a b c up ∧ ratN a b c up ≤ a * b / c + 1 := by
  unfold ratN; split <;> omega
set_option maxHeartbeats 1000000 in
set_option maxRecDepth 100000 in
theorem low_ok (x r : Int) (w : World) (hx : nearX x = true) (hr : okRate r = true) :
    Calls Try.prog 34 #[.int .i64 x, .int .i64 r] w fun e w' => e = .returned (.tuple #[.int .i64 (lowZ x r), .int .i64 0]) ∧ Below w.heap.size w w' := by
  have hx' := of_decide_eq_true hx
  have hr' := of_decide_eq_true hr
  have HRT := hide (fun w => rate_any r w)
  rw [hr] at HRT
  have h1 : decide (x < -4611686018427387904) = false := decide_eq_false (by omega)
  have h2 : decide (4611686018427387904 < x) = false := decide_eq_false (by omega)
  clear hx hr
  by_cases h0 : 0 < x
  · have h3 : decide (0 < x) = true := decide_eq_true h0
    have HL : Hid (lowZ x r = max 1 (ratN (x - 1).toNat 1000000 (1000000 + r).toNat true : Int)) := hide (if_pos h0)
    have HRA := hide (fun w => ratioN_any (x - 1).toNat 1000000 (1000000 + r).toNat true w (by omega) (by omega) (by omega) (by omega) (low_bound1 x r h0 hx'.2 hr'.1))
    rw [show (((x - 1).toNat : Nat) : Int) = x - 1 by omega, show (((1000000 + r).toNat : Nat) : Int) = 1000000 + r by omega] at HRA
    generalize ratN (x - 1).toNat 1000000 (1000000 + r).toNat true = q at *
    have hle : -4611686018427387904 ≤ x ∧ x ≤ 4611686018427387904 := hx'
    have hl1 := hle.1
    have hl2 := hle.2
    have hr1 := hr'.1
    have hr2 := hr'.2
    clear hx' hr' hle
    go_enter Try.func34, Try.ntmps34
    go_wp2_with (first
      | (go_at_call 64; refine (HRT.out _).mono ?_; rintro e w' ⟨rfl, rfl⟩)
      | (go_at_call 65; refine (HRA.out _).mono ?_; rintro e w1 ⟨rfl, hb1⟩))
    go_ret2
    refine ⟨?_, hb1⟩
    rw [HL.out]
    rfl
  · have h3 : decide (0 < x) = false := decide_eq_false h0
    have HL : Hid (lowZ x r = -(ratN (1 - x).toNat 1000000 (1000000 - r).toNat false : Int)) := hide (if_neg h0)
    have hb := low_bound2 x r (by omega) hx'.1 hr'.1 hr'.2
    have hq := ratN_bounds (1 - x).toNat 1000000 (1000000 - r).toNat false
    have HRA := hide (fun w => ratioN_any (1 - x).toNat 1000000 (1000000 - r).toNat false w (by omega) (by omega) (by omega) (by omega) (by omega))
    rw [show (((1 - x).toNat : Nat) : Int) = 1 - x by omega, show (((1000000 - r).toNat : Nat) : Int) = 1000000 - r by omega] at HRA
    generalize (1 - x).toNat * 1000000 / (1000000 - r).toNat = d at *
    generalize ratN (1 - x).toNat 1000000 (1000000 - r).toNat false = q at *
    have hl1 := hx'.1
    have hl2 := hx'.2
    have hr1 := hr'.1
    have hr2 := hr'.2
    have hq2 : q ≤ 5124095576030431007 := by omega
    clear hx' hr' hb hq
    go_enter Try.func34, Try.ntmps34
    go_wp2_with (first
      | (go_at_call 64; refine (HRT.out _).mono ?_; rintro e w' ⟨rfl, rfl⟩)
      | (go_at_call 65; refine (HRA.out _).mono ?_; rintro e w1 ⟨rfl, hb1⟩))
    go_ret2
    refine ⟨?_, hb1⟩
    rw [HL.out]
    rfl
theorem lowZ_bounds (x r : Int) (hx : nearX x = true) (hr : okRate r = true) : -5124095576030431007 ≤ lowZ x r ∧ lowZ x r ≤ 4611686018427387904 := by
  have hx' := of_decide_eq_true hx
  have hr' := of_decide_eq_true hr
  unfold lowZ
  split
  · rename_i h
    have h1 : (x - 1).toNat * 1000000 / (1000000 + r).toNat ≤ (x - 1).toNat := by
      refine Nat.div_le_of_le_mul ?_
      rw [Nat.mul_comm]
      exact Nat.mul_le_mul_right _ (by omega)
    have h2 := ratN_bounds (x - 1).toNat 1000000 (1000000 + r).toNat true
    omega
  · have h1 := low_bound2 x r (by omega) hx'.1 hr'.1 hr'.2
    have h2 := ratN_bounds (1 - x).toNat 1000000 (1000000 - r).toNat false
    omega
set_option maxHeartbeats 1000000 in
set_option maxRecDepth 100000 in
theorem low_err (x r : Int) (w : World) (hx1 : -9223372036854775808 ≤ x) (hx2 : x ≤ 9223372036854775807) (h : nearX x = false ∨ okRate r = false) :
    Calls Try.prog 34 #[.int .i64 x, .int .i64 r] w fun e w' => e = .returned (.tuple #[.int .i64 0, .int .i64 11]) ∧ Below w.heap.size w w' := by
  by_cases c1 : x < -4611686018427387904
  · have h1 : decide (x < -4611686018427387904) = true := decide_eq_true c1
    go_enter Try.func34, Try.ntmps34
    go_wp2_with fail
    go_ret2
    exact ⟨rfl, Below.refl _ _⟩
  have h1 : decide (x < -4611686018427387904) = false := decide_eq_false c1
  by_cases c2 : 4611686018427387904 < x
  · have h2 : decide (4611686018427387904 < x) = true := decide_eq_true c2
    go_enter Try.func34, Try.ntmps34
    go_wp2_with fail
    go_ret2
    exact ⟨rfl, Below.refl _ _⟩
  have h2 : decide (4611686018427387904 < x) = false := decide_eq_false c2
  have hr : okRate r = false := h.resolve_left (by unfold nearX; simp; omega)
  have HRT := hide (fun w => rate_any r w)
  rw [hr] at HRT
  clear h hr
  go_enter Try.func34, Try.ntmps34
  go_wp2_with (go_at_call 64; refine (HRT.out _).mono ?_; rintro e w' ⟨rfl, rfl⟩)
  go_ret2
  exact ⟨rfl, Below.refl _ _⟩
def highZ (x r : Int) : Int := -lowZ (-x) r
set_option maxHeartbeats 1000000 in
set_option maxRecDepth 100000 in
theorem high_ok (x r : Int) (w : World) (hx : nearX x = true) (hr : okRate r = true) :
    Calls Try.prog 35 #[.int .i64 x, .int .i64 r] w fun e w' => e = .returned (.tuple #[.int .i64 (highZ x r), .int .i64 0]) ∧ Below w.heap.size w w' := by
  have hx' := of_decide_eq_true hx
  have h1 : decide (x < -4611686018427387904) = false := decide_eq_false (by omega)
  have h2 : decide (4611686018427387904 < x) = false := decide_eq_false (by omega)
  have hnx : nearX (-x) = true := by unfold nearX; rw [decide_eq_true_eq]; omega
  have HLO := hide (fun w => low_ok (-x) r w hnx hr)
  have hbd := lowZ_bounds (-x) r hnx hr
  have HH : Hid (highZ x r = -lowZ (-x) r) := hide rfl
  generalize highZ x r = H at *
  generalize lowZ (-x) r = L at *
  have hb1 := hbd.1
  have hb2 := hbd.2
  have hl1 := hx'.1
  have hl2 := hx'.2
  clear hbd hx hr hnx hx'
  go_enter Try.func35, Try.ntmps35
  go_wp2_with (go_at_call 34; refine (HLO.out _).mono ?_; rintro e w1 ⟨rfl, hbw⟩)
  go_ret2
  exact ⟨by rw [HH.out]; rfl, hbw⟩
set_option maxHeartbeats 1000000 in
set_option maxRecDepth 100000 in
theorem high_err (x r : Int) (w : World) (hx1 : -9223372036854775808 ≤ x) (hx2 : x ≤ 9223372036854775807) (h : nearX x = false ∨ okRate r = false) :
    Calls Try.prog 35 #[.int .i64 x, .int .i64 r] w fun e w' => e = .returned (.tuple #[.int .i64 0, .int .i64 11]) ∧ Below w.heap.size w w' := by
  by_cases c1 : x < -4611686018427387904
  · have h1 : decide (x < -4611686018427387904) = true := decide_eq_true c1
    go_enter Try.func35, Try.ntmps35
    go_wp2_with fail
    go_ret2
    exact ⟨rfl, Below.refl _ _⟩
  have h1 : decide (x < -4611686018427387904) = false := decide_eq_false c1
  by_cases c2 : 4611686018427387904 < x
  · have h2 : decide (4611686018427387904 < x) = true := decide_eq_true c2
    go_enter Try.func35, Try.ntmps35
    go_wp2_with fail
    go_ret2
    exact ⟨rfl, Below.refl _ _⟩
  have h2 : decide (4611686018427387904 < x) = false := decide_eq_false c2
  have hr : okRate r = false := h.resolve_left (by unfold nearX; simp; omega)
  have HLO := hide (fun w => low_err (-x) r w (by omega) (by omega) (.inr hr))
  clear h hr
  go_enter Try.func35, Try.ntmps35
  go_wp2_with (go_at_call 34; refine (HLO.out _).mono ?_; rintro e w1 ⟨rfl, hbw⟩)
  go_ret2
  exact ⟨rfl, hbw⟩
def farA (a : Int) : Bool := decide (0 ≤ a ∧ a ≤ 4611686018427387904)
set_option maxHeartbeats 1000000 in
set_option maxRecDepth 100000 in
theorem slack_ok (a r : Int) (w : World) (ha : farA a = true) (hr : okRate r = true) :
    Calls Try.prog 31 #[.int .i64 a, .int .i64 r] w fun e w' => e = .returned (.tuple #[.int .i64 (slackZ a r), .int .i64 0]) ∧ Below w.heap.size w w' := by
  have ha' := of_decide_eq_true ha
  have hr' := of_decide_eq_true hr
  have HRT := hide (fun w => rate_any r w)
  rw [hr] at HRT
  have h1 : decide (a < 0) = false := decide_eq_false (by omega)
  have h2 : decide (4611686018427387904 < a) = false := decide_eq_false (by omega)
  have hbd : a.toNat * r.toNat / (1000000 - r).toNat < 9223372036854775807 := by
    rw [Nat.div_lt_iff_lt_mul (by omega)]
    have h5 : a.toNat * r.toNat ≤ 4611686018427387904 * 100000 := Nat.mul_le_mul (by omega) (by omega)
    have h6 : 9223372036854775807 * 900000 ≤ 9223372036854775807 * (1000000 - r).toNat := Nat.mul_le_mul_left _ (by omega)
    omega
  have HRA := hide (fun w => ratioN_any a.toNat r.toNat (1000000 - r).toNat true w (by omega) (by omega) (by omega) (by omega) hbd)
  rw [show ((a.toNat : Nat) : Int) = a by omega, show ((r.toNat : Nat) : Int) = r by omega, show (((1000000 - r).toNat : Nat) : Int) = 1000000 - r by omega] at HRA
  have HL : Hid (slackZ a r = (ratN a.toNat r.toNat (1000000 - r).toNat true : Int)) := hide rfl
  generalize ratN a.toNat r.toNat (1000000 - r).toNat true = q at *
  generalize slackZ a r = sl at *
  have hr1 := hr'.1
  have hr2 := hr'.2
  clear ha ha' hr hr' hbd
  go_enter Try.func31, Try.ntmps31
  go_wp2_with (first
    | (go_at_call 64; refine (HRT.out _).mono ?_; rintro e w' ⟨rfl, rfl⟩)
    | (go_at_call 65; refine (HRA.out _).mono ?_; rintro e w1 ⟨rfl, hb1⟩))
  go_ret2
  exact ⟨by rw [HL.out]; rfl, hb1⟩
end Go.Proofs.Ytgidaifoiljgoaa
/- safe.Add. -/
namespace Go.Proofs.Ytgidaifoiljgoaa
open Go.RowKit
set_option linter.unusedVariables false
set_option linter.unusedSimpArgs false
theorem toInt_i64 (x : BitVec 64) : IntKind.i64.wrap (x.toNat : Int) = x.toInt := by
  have h := x.isLt
  rw [IntKind.wrap_i64, BitVec.toInt_eq_toNat_cond]
  split <;> omega
theorem xor_toInt (a b : Int) : bits .xor .i64 a b = (BitVec.ofInt 64 a ^^^ BitVec.ofInt 64 b).toInt := by
  rw [← toInt_i64]; rfl
theorem and_toInt (a b : Int) : bits .and .i64 a b = (BitVec.ofInt 64 a &&& BitVec.ofInt 64 b).toInt := by
  rw [← toInt_i64]; rfl
theorem msb_in (a : Int) (h1 : -9223372036854775808 ≤ a) (h2 : a ≤ 9223372036854775807) : (BitVec.ofInt 64 a).msb = decide (a < 0) := by
  rw [BitVec.msb_eq_toInt, BitVec.toInt_ofInt]
  have : a.bmod (2 ^ 64) = a := by
    unfold Int.bmod
    simp only []
    split <;> omega
  rw [this]
theorem over_sign (a b s : Int) (a1 : -9223372036854775808 ≤ a) (a2 : a ≤ 9223372036854775807) (b1 : -9223372036854775808 ≤ b) (b2 : b ≤ 9223372036854775807) (s1 : -9223372036854775808 ≤ s) (s2 : s ≤ 9223372036854775807) :
    decide (bits .and .i64 (bits .xor .i64 a s) (bits .xor .i64 b s) < 0) = ((decide (a < 0) ^^ decide (s < 0)) && (decide (b < 0) ^^ decide (s < 0))) := by
  rw [and_toInt, ← BitVec.msb_eq_toInt, BitVec.msb_and, xor_toInt, xor_toInt, BitVec.ofInt_toInt, BitVec.ofInt_toInt, BitVec.msb_xor, BitVec.msb_xor, msb_in a a1 a2, msb_in b b1 b2, msb_in s s1 s2]
theorem over_add (a b : Int) (a1 : -9223372036854775808 ≤ a) (a2 : a ≤ 9223372036854775807) (b1 : -9223372036854775808 ≤ b) (b2 : b ≤ 9223372036854775807) :
    decide (bits .and .i64 (bits .xor .i64 a (wrap64 (a + b))) (bits .xor .i64 b (wrap64 (a + b))) < 0) = decide (a + b < -9223372036854775808 ∨ 9223372036854775807 < a + b) := by
  have hw : wrap64 (a + b) = (a + b + 9223372036854775808) % 18446744073709551616 - 9223372036854775808 := by unfold wrap64; omega
  generalize wrap64 (a + b) = s at *
  rw [over_sign a b s a1 a2 b1 b2 (by omega) (by omega)]
  by_cases h1 : a < 0 <;> by_cases h2 : b < 0 <;> by_cases h3 : s < 0 <;> simp [h1, h2, h3] <;> omega
def addR (a b : Int) : Int × Nat := if a + b < -9223372036854775808 ∨ 9223372036854775807 < a + b then (0, 12) else (a + b, 0)
set_option maxRecDepth 100000 in
theorem safeAdd_any (a b : Int) (w : World) (a1 : -9223372036854775808 ≤ a) (a2 : a ≤ 9223372036854775807) (b1 : -9223372036854775808 ≤ b) (b2 : b ≤ 9223372036854775807) :
    Calls Try.prog 60 #[.int .i64 a, .int .i64 b] w fun e w' => e = .returned (.tuple #[.int .i64 (addR a b).1, .int .i64 (addR a b).2]) ∧ w = w' := by
  have HO := over_add a b a1 a2 b1 b2
  have HR : Hid (addR a b = if a + b < -9223372036854775808 ∨ 9223372036854775807 < a + b then (0, 12) else (a + b, 0)) := hide rfl
  generalize addR a b = R at *
  by_cases c : a + b < -9223372036854775808 ∨ 9223372036854775807 < a + b
  · rw [decide_eq_true c] at HO
    rw [if_pos c] at HR
    clear c
    go_enter Try.func60, Try.ntmps60
    go_wp2
    go_ret2
    exact ⟨by rw [HR.out]; rfl, rfl⟩
  · rw [decide_eq_false c] at HO
    rw [if_neg c] at HR
    have hw : wrap64 (a + b) = a + b := IntWalk.wrap64_in _ (by constructor <;> omega)
    have HW := hide hw
    clear c hw
    go_enter Try.func60, Try.ntmps60
    go_wp2
    go_ret2
    refine ⟨?_, rfl⟩
    rw [HR.out]
    show Ending.returned (.tuple #[.int .i64 (wrap64 (a + b)), .int .i64 0]) = _
    rw [HW.out]
    rfl
end Go.Proofs.Ytgidaifoiljgoaa
/- Gaps: Right, Has. -/
namespace Go.Proofs.Ytgidaifoiljgoaa
open Go.RowKit
set_option linter.unusedVariables false
set_option linter.unusedSimpArgs false
def gv (lo hi : Int) : Array Value := #[.int .i64 lo, .int .i64 hi]
theorem info100 : (Try.prog.info? 39).map (·.size) = some 2 := by kernel_rfl
theorem gv_one (lo hi : Int) : (gv lo hi).all (·.oneCell') = true := by
  rw [Array.all_eq_true_iff_forall_mem]
  intro v hv
  simp only [gv, List.mem_toArray, List.mem_cons, List.not_mem_nil, or_false] at hv
  rcases hv with rfl | rfl <;> rfl
theorem gapRight_any (lo hi : Int) (w : World) : Calls Try.prog 46 #[.agg (gv lo hi)] w fun e w' => e = .returned (.bool (decide (lo ≤ hi))) ∧ Below w.heap.size w w' := by
  unfold gv
  go_enter Try.func46, Try.ntmps46
  go_wp2
  go_ret
  exact ⟨rfl, (Below.refl _ _).alloc (Nat.le_refl _) _⟩
theorem gapHas_any (lo hi x : Int) (w : World) : Calls Try.prog 39 #[.agg (gv lo hi), .int .i64 x] w fun e w' => e = .returned (.bool (decide (lo ≤ x ∧ x ≤ hi))) ∧ Below w.heap.size w w' := by
  unfold gv
  by_cases h : lo ≤ x
  · have hb : decide (lo ≤ x) = true := decide_eq_true h
    go_enter Try.func39, Try.ntmps39
    go_wp2
    go_ret
    exact ⟨ret_bool (by simp [h]), (Below.refl _ _).alloc (Nat.le_refl _) _⟩
  · have hb : decide (lo ≤ x) = false := decide_eq_false h
    go_enter Try.func39, Try.ntmps39
    go_wp2
    go_ret
    exact ⟨ret_bool (by simp [h]), (Below.refl _ _).alloc (Nat.le_refl _) _⟩
end Go.Proofs.Ytgidaifoiljgoaa
/- clock.Sample: Right, Trip, At. -/
namespace Go.Proofs.Ytgidaifoiljgoaa
open Go.RowKit
set_option linter.unusedVariables false
set_option linter.unusedSimpArgs false
structure Smp where
  asked : Int
  got : Int
  sent : Int
  came : Int
deriving DecidableEq
def smv (s : Smp) : Array Value := #[.int .i64 s.asked, .int .i64 s.got, .int .i64 s.sent, .int .i64 s.came]
def isT (t : Int) : Bool := decide (0 ≤ t ∧ t ≤ 4611686018427387903)
def okS (s : Smp) : Bool := isT s.asked && isT s.got && isT s.sent && isT s.came && decide (s.asked ≤ s.came) && decide (s.got ≤ s.sent)
theorem isTime_any (t : Int) (w : World) : Calls Try.prog 51 #[.int .i64 t] w fun e w' => e = .returned (.bool (isT t)) ∧ w = w' := by
  by_cases h : 0 ≤ t
  · have h1 : decide (0 ≤ t) = true := decide_eq_true h
    have HE := hide (show isT t = decide (t ≤ 4611686018427387903) by unfold isT; simp [h])
    go_enter Try.func51, Try.ntmps51
    go_wp2
    go_ret
    exact ⟨ret_bool HE.out.symm, rfl⟩
  · have h1 : decide (0 ≤ t) = false := decide_eq_false h
    have HE := hide (show isT t = false by unfold isT; simp [h])
    go_enter Try.func51, Try.ntmps51
    go_wp2
    go_ret
    exact ⟨ret_bool HE.out.symm, rfl⟩
theorem isRate_any (r : Int) (w : World) : Calls Try.prog 42 #[.int .i64 r] w fun e w' => e = .returned (.bool (okRate r)) ∧ w = w' := by
  by_cases h : 0 ≤ r
  · have h1 : decide (0 ≤ r) = true := decide_eq_true h
    have HE := hide (show okRate r = decide (r ≤ 100000) by unfold okRate; simp [h])
    go_enter Try.func42, Try.ntmps42
    go_wp2
    go_ret
    exact ⟨ret_bool HE.out.symm, rfl⟩
  · have h1 : decide (0 ≤ r) = false := decide_eq_false h
    have HE := hide (show okRate r = false by unfold okRate; simp [h])
    go_enter Try.func42, Try.ntmps42
    go_wp2
    go_ret
    exact ⟨ret_bool HE.out.symm, rfl⟩
set_option maxHeartbeats 1000000 in
set_option maxRecDepth 100000 in
theorem right_any (s : Smp) (w : World) : Calls Try.prog 25 #[.agg (smv s)] w fun e w' => e = .returned (.bool (okS s)) ∧ Below w.heap.size w w' := by
  obtain ⟨a, g, t, c⟩ := s
  have HO : Hid (okS ⟨a, g, t, c⟩ = (isT a && isT g && isT t && isT c && decide (a ≤ c) && decide (g ≤ t))) := hide rfl
  have HA := hide (fun w => isTime_any a w)
  have HG := hide (fun w => isTime_any g w)
  have HT := hide (fun w => isTime_any t w)
  have HC := hide (fun w => isTime_any c w)
  generalize okS ⟨a, g, t, c⟩ = r at *
  generalize isT a = ta at *
  generalize isT g = tg at *
  generalize isT t = tt at *
  generalize isT c = tc at *
  unfold smv
  simp only []
  cases ta with
  | false =>
    go_enter Try.func25, Try.ntmps25
    go_wp2_with fail
    refine (HA.out _).mono ?_
    rintro e w' ⟨rfl, hw⟩
    subst hw
    go_wp2_with fail
    go_ret
    exact ⟨ret_bool (by rw [HO.out]; simp), (Below.refl _ _).alloc (Nat.le_refl _) _⟩
  | true =>
    cases tg with
    | false =>
      go_enter Try.func25, Try.ntmps25
      go_wp2_with fail
      refine (HA.out _).mono ?_
      rintro e w' ⟨rfl, hw⟩
      subst hw
      go_wp2_with fail
      refine (HG.out _).mono ?_
      rintro e w' ⟨rfl, hw⟩
      subst hw
      go_wp2_with fail
      go_ret
      exact ⟨ret_bool (by rw [HO.out]; simp), (Below.refl _ _).alloc (Nat.le_refl _) _⟩
    | true =>
      cases tt with
      | false =>
        go_enter Try.func25, Try.ntmps25
        go_wp2_with fail
        refine (HA.out _).mono ?_
        rintro e w' ⟨rfl, hw⟩
        subst hw
        go_wp2_with fail
        refine (HG.out _).mono ?_
        rintro e w' ⟨rfl, hw⟩
        subst hw
        go_wp2_with fail
        refine (HT.out _).mono ?_
        rintro e w' ⟨rfl, hw⟩
        subst hw
        go_wp2_with fail
        go_ret
        exact ⟨ret_bool (by rw [HO.out]; simp), (Below.refl _ _).alloc (Nat.le_refl _) _⟩
      | true =>
        cases tc with
        | false =>
          go_enter Try.func25, Try.ntmps25
          go_wp2_with fail
          refine (HA.out _).mono ?_
          rintro e w' ⟨rfl, hw⟩
          subst hw
          go_wp2_with fail
          refine (HG.out _).mono ?_
          rintro e w' ⟨rfl, hw⟩
          subst hw
          go_wp2_with fail
          refine (HT.out _).mono ?_
          rintro e w' ⟨rfl, hw⟩
          subst hw
          go_wp2_with fail
          refine (HC.out _).mono ?_
          rintro e w' ⟨rfl, hw⟩
          subst hw
          go_wp2_with fail
          go_ret
          exact ⟨ret_bool (by rw [HO.out]; simp), (Below.refl _ _).alloc (Nat.le_refl _) _⟩
        | true =>
          by_cases h0 : a ≤ c
          · have d0 : decide (a ≤ c) = true := decide_eq_true h0
            rw [d0] at HO
            have d1 : Hid (r = decide (g ≤ t)) := hide (by rw [HO.out]; simp)
            go_enter Try.func25, Try.ntmps25
            go_wp2_with fail
            refine (HA.out _).mono ?_
            rintro e w' ⟨rfl, hw⟩
            subst hw
            go_wp2_with fail
            refine (HG.out _).mono ?_
            rintro e w' ⟨rfl, hw⟩
            subst hw
            go_wp2_with fail
            refine (HT.out _).mono ?_
            rintro e w' ⟨rfl, hw⟩
            subst hw
            go_wp2_with fail
            refine (HC.out _).mono ?_
            rintro e w' ⟨rfl, hw⟩
            subst hw
            go_wp2_with fail
            go_ret
            exact ⟨ret_bool (by rw [d1.out]), (Below.refl _ _).alloc (Nat.le_refl _) _⟩
          · have d0 : decide (a ≤ c) = false := decide_eq_false h0
            rw [d0] at HO
            go_enter Try.func25, Try.ntmps25
            go_wp2_with fail
            refine (HA.out _).mono ?_
            rintro e w' ⟨rfl, hw⟩
            subst hw
            go_wp2_with fail
            refine (HG.out _).mono ?_
            rintro e w' ⟨rfl, hw⟩
            subst hw
            go_wp2_with fail
            refine (HT.out _).mono ?_
            rintro e w' ⟨rfl, hw⟩
            subst hw
            go_wp2_with fail
            refine (HC.out _).mono ?_
            rintro e w' ⟨rfl, hw⟩
            subst hw
            go_wp2_with fail
            go_ret
            exact ⟨ret_bool (by rw [HO.out]; simp), (Below.refl _ _).alloc (Nat.le_refl _) _⟩
/-- The sample's interval at a stamp. -/
def atLo (s : Smp) (stamp rho : Int) : Int := max (s.asked + lowZ (stamp - s.got) rho) 0
def atHi (s : Smp) (stamp rho : Int) : Int := min (s.came + highZ (stamp - s.sent) rho) 4611686018427387903
def atR (s : Smp) (stamp rho : Int) : (Int × Int) × Nat :=
  if okS s = false then ((0, 0), 10) else if isT stamp = false ∨ okRate rho = false then ((0, 0), 11) else if atHi s stamp rho < atLo s stamp rho then ((0, 0), 13) else ((atLo s stamp rho, atHi s stamp rho), 0)
end Go.Proofs.Ytgidaifoiljgoaa
/- clock.Sample.At. -/
namespace Go.Proofs.Ytgidaifoiljgoaa
open Go.RowKit
set_option linter.unusedVariables false
set_option linter.unusedSimpArgs false
theorem infoS : (Try.prog.info? 33).map (·.size) = some 4 := by kernel_rfl
theorem lowIn (s : Smp) (stamp rho : Int) (hs : okS s = true) (ht : isT stamp = true) (hr : okRate rho = true) : nearX (stamp - s.got) = true ∧ nearX (stamp - s.sent) = true := by
  unfold okS isT at hs
  unfold isT at ht
  simp only [Bool.and_eq_true, decide_eq_true_eq] at hs ht
  unfold nearX
  rw [decide_eq_true_eq, decide_eq_true_eq]
  omega
set_option maxHeartbeats 1000000 in
set_option maxRecDepth 100000 in
theorem at_any (s : Smp) (stamp rho : Int) (w : World) (hst1 : -9223372036854775808 ≤ stamp) (hst2 : stamp ≤ 9223372036854775807) :
    Calls Try.prog 24 #[.agg (smv s), .int .i64 stamp, .int .i64 rho] w fun e w' => e = .returned (.tuple #[.agg (gv (atR s stamp rho).1.1 (atR s stamp rho).1.2), .int .i64 (atR s stamp rho).2]) ∧ Below w.heap.size w w' := by
  have K0 := hide (((Blks.nil w).new 33 (smv s)).new 39 (gv 0 0))
  rw [World.size_alloc] at K0
  have B0 := hide (show Below w.heap.size w ((w.alloc (.cells (smv s) 33)).alloc (.cells (gv 0 0) 39)) from ((Below.refl _ _).alloc (Nat.le_refl _) _).alloc (by simp) _)
  have HS := hide (fun w => right_any s w)
  have HRr : Hid (atR s stamp rho = if okS s = false then ((0, 0), 10) else if isT stamp = false ∨ okRate rho = false then ((0, 0), 11) else if atHi s stamp rho < atLo s stamp rho then ((0, 0), 13) else ((atLo s stamp rho, atHi s stamp rho), 0)) := hide rfl
  have HR := HRr
  clear HRr
  cases hs : okS s with
  | false =>
    rw [hs] at HS
    rw [if_pos hs] at HR
    generalize atR s stamp rho = R at *
    clear hs
    go_enter Try.func24, Try.ntmps24
    go_wp2_with (refine pause (.load 33 _) rfl ?_)
    refine unpause ?_
    refine wpList_load_blk rfl 33 (.tmp 3) rfl w.heap.size rfl (smv s) _ (K0.out.get 1 rfl) Try.underlying33 rfl infoS ?_
    go_wp2_with fail
    refine (HS.out _).mono ?_
    rintro e w1 ⟨rfl, hb1⟩
    have K1 := hide (K0.out.next hb1)
    have B1 := hide (B0.out.trans (hb1.mono B0.out.size))
    clear hb1 K0 B0
    go_wp2_with (refine pause (.store 39 _ _) rfl ?_)
    refine unpause ?_
    refine wpList_store_blk rfl 39 (.tmp 6) (.tmp 18) rfl (w.heap.size + 1) rfl (gv 0 0) (gv 0 0) rfl (K1.out.get 0 rfl) rfl info100 (gv_one _ _) ?_
    go_wp2_with fail
    refine bodyPost_ret_by (results_cell2 rfl _ (w.heap.size + 1) rfl (gv 0 0) _ ((K1.out.get 0 rfl).setRow _) Try.underlying39 rfl info100) rfl ⟨?_, below_setRow B1.out (by omega) _⟩
    rw [HR.out]
    rfl
  | true =>
    rw [hs] at HS
    rw [if_neg (by rw [hs]; simp)] at HR
    have HT := hide (fun w => isTime_any stamp w)
    have HRT := hide (fun w => isRate_any rho w)
    have hin := lowIn s stamp rho hs
    have hsb := hs
    unfold okS isT at hsb
    simp only [Bool.and_eq_true, decide_eq_true_eq] at hsb
    clear hs
    cases ht : isT stamp with
    | false =>
      rw [ht] at HT
      rw [if_pos (.inl ht)] at HR
      generalize atR s stamp rho = R at *
      clear ht hin
      go_enter Try.func24, Try.ntmps24
      go_wp2_with (refine pause (.load 33 _) rfl ?_)
      refine unpause ?_
      refine wpList_load_blk rfl 33 (.tmp 3) rfl w.heap.size rfl (smv s) _ (K0.out.get 1 rfl) Try.underlying33 rfl infoS ?_
      go_wp2_with fail
      refine (HS.out _).mono ?_
      rintro e w1 ⟨rfl, hb1⟩
      have K1 := hide (K0.out.next hb1)
      have B1 := hide (B0.out.trans (hb1.mono B0.out.size))
      clear hb1 K0 B0
      go_wp2_with fail
      refine (HT.out _).mono ?_
      rintro e w' ⟨rfl, hw⟩
      subst hw
      go_wp2_with (refine pause (.store 39 _ _) rfl ?_)
      refine unpause ?_
      refine wpList_store_blk rfl 39 (.tmp 6) (.tmp 27) rfl (w.heap.size + 1) rfl (gv 0 0) (gv 0 0) rfl (K1.out.get 0 rfl) rfl info100 (gv_one _ _) ?_
      go_wp2_with fail
      refine bodyPost_ret_by (results_cell2 rfl _ (w.heap.size + 1) rfl (gv 0 0) _ ((K1.out.get 0 rfl).setRow _) Try.underlying39 rfl info100) rfl ⟨?_, below_setRow B1.out (by omega) _⟩
      rw [HR.out]
      rfl
    | true =>
      rw [ht] at HT
      cases hr : okRate rho with
      | false =>
        rw [hr] at HRT
        rw [if_pos (.inr hr)] at HR
        generalize atR s stamp rho = R at *
        clear ht hin hr
        go_enter Try.func24, Try.ntmps24
        go_wp2_with (refine pause (.load 33 _) rfl ?_)
        refine unpause ?_
        refine wpList_load_blk rfl 33 (.tmp 3) rfl w.heap.size rfl (smv s) _ (K0.out.get 1 rfl) Try.underlying33 rfl infoS ?_
        go_wp2_with fail
        refine (HS.out _).mono ?_
        rintro e w1 ⟨rfl, hb1⟩
        have K1 := hide (K0.out.next hb1)
        have B1 := hide (B0.out.trans (hb1.mono B0.out.size))
        clear hb1 K0 B0
        go_wp2_with fail
        refine (HT.out _).mono ?_
        rintro e w' ⟨rfl, hw⟩
        subst hw
        go_wp2_with fail
        refine (HRT.out _).mono ?_
        rintro e w' ⟨rfl, hw⟩
        subst hw
        go_wp2_with (refine pause (.store 39 _ _) rfl ?_)
        refine unpause ?_
        refine wpList_store_blk rfl 39 (.tmp 6) (.tmp 27) rfl (w.heap.size + 1) rfl (gv 0 0) (gv 0 0) rfl (K1.out.get 0 rfl) rfl info100 (gv_one _ _) ?_
        go_wp2_with fail
        refine bodyPost_ret_by (results_cell2 rfl _ (w.heap.size + 1) rfl (gv 0 0) _ ((K1.out.get 0 rfl).setRow _) Try.underlying39 rfl info100) rfl ⟨?_, below_setRow B1.out (by omega) _⟩
        rw [HR.out]
        rfl
      | true =>
        rw [hr] at HRT
        rw [if_neg (by rw [ht, hr]; simp)] at HR
        obtain ⟨hn1, hn2⟩ := hin ht hr
        have HLO := hide (fun w => low_ok (stamp - s.got) rho w hn1 hr)
        have HHI := hide (fun w => high_ok (stamp - s.sent) rho w hn2 hr)
        have hlb := lowZ_bounds (stamp - s.got) rho hn1 hr
        have hhb := lowZ_bounds (-(stamp - s.sent)) rho (by unfold nearX at hn2 ⊢; rw [decide_eq_true_eq] at hn2 ⊢; omega) hr
        have hhb2 : -4611686018427387904 ≤ highZ (stamp - s.sent) rho ∧ highZ (stamp - s.sent) rho ≤ 5124095576030431007 := by unfold highZ; omega
        have hL : Hid (atLo s stamp rho = max (s.asked + lowZ (stamp - s.got) rho) 0) := hide rfl
        have hH : Hid (atHi s stamp rho = min (s.came + highZ (stamp - s.sent) rho) 4611686018427387903) := hide rfl
        have htb := of_decide_eq_true ht
        generalize atR s stamp rho = R at *
        generalize atLo s stamp rho = lo at *
        generalize atHi s stamp rho = hi at *
        generalize lowZ (stamp - s.got) rho = L at *
        generalize highZ (stamp - s.sent) rho = H at *
        have HA := hide (fun w => safeAdd_any s.came H w (by omega) (by omega) (by omega) (by omega))
        obtain ⟨⟨⟨⟨⟨⟨a1, a2⟩, g1, g2⟩, t1, t2⟩, c1, c2⟩, hac⟩, hgt⟩ := hsb
        have hl1 := hlb.1
        have hl2 := hlb.2
        have hh1 := hhb2.1
        have hh2 := hhb2.2
        have ht1 := htb.1
        have ht2 := htb.2
        clear hn1 hn2 hlb hhb hhb2 ht hr htb hac hgt hin
        go_enter Try.func24, Try.ntmps24
        go_wp2_with (refine pause (.load 33 _) rfl ?_)
        refine unpause ?_
        refine wpList_load_blk rfl 33 (.tmp 3) rfl w.heap.size rfl (smv s) _ (K0.out.get 1 rfl) Try.underlying33 rfl infoS ?_
        go_wp2_with fail
        refine (HS.out _).mono ?_
        rintro e w1 ⟨rfl, hb1⟩
        have K1 := hide (K0.out.next hb1)
        have B1 := hide (B0.out.trans (hb1.mono B0.out.size))
        clear hb1 K0 B0
        go_wp2_with fail
        refine (HT.out _).mono ?_
        rintro e w' ⟨rfl, hw⟩
        subst hw
        go_wp2_with fail
        refine (HRT.out _).mono ?_
        rintro e w' ⟨rfl, hw⟩
        subst hw
        have k0 := K1.out.get 1 rfl
        have d0 := k0.cell 0
        have d1 := k0.cell 1
        have d2 := k0.cell 2
        have d3 := k0.cell 3
        simp only [smv, List.getElem?_toArray, List.getElem?_cons_zero, List.getElem?_cons_succ] at d0 d1 d2 d3
        clear k0
        go_wp2_with fail
        refine (HLO.out _).mono ?_
        rintro e w2 ⟨rfl, hb2⟩
        have K2 := hide (K1.out.next hb2)
        have B2 := hide (B1.out.trans (hb2.mono B1.out.size))
        clear hb2 K1 B1
        clear d0 d1 d2 d3
        have k0 := K2.out.get 1 rfl
        have d0 := k0.cell 0
        have d1 := k0.cell 1
        have d2 := k0.cell 2
        have d3 := k0.cell 3
        simp only [smv, List.getElem?_toArray, List.getElem?_cons_zero, List.getElem?_cons_succ] at d0 d1 d2 d3
        clear k0
        go_wp2_with fail
        refine (HHI.out _).mono ?_
        rintro e w3 ⟨rfl, hb3⟩
        have K3 := hide (K2.out.next hb3)
        have B3 := hide (B2.out.trans (hb3.mono B2.out.size))
        clear hb3 K2 B2
        clear d0 d1 d2 d3
        have k0 := K3.out.get 1 rfl
        have d0 := k0.cell 0
        have d1 := k0.cell 1
        have d2 := k0.cell 2
        have d3 := k0.cell 3
        simp only [smv, List.getElem?_toArray, List.getElem?_cons_zero, List.getElem?_cons_succ] at d0 d1 d2 d3
        clear k0
        go_wp2_with fail
        rw [← hL.out]
        by_cases ov : 9223372036854775807 < s.came + H
        · rw [show addR s.came H = (0, 12) from if_pos (.inr ov)] at HA
          have hhi : hi = 4611686018427387903 := by rw [hH.out]; omega
          subst hhi
          refine (HA.out _).mono ?_
          rintro e w' ⟨rfl, hw⟩
          subst hw
          go_upto_region 12 with (fail)
          have hlt2 : (4611686018427387903 : Int) < lo → R = ((0, 0), 13) := fun h => by rw [HR.out, if_pos h]
          have hge2 : ¬ (4611686018427387903 : Int) < lo → R = ((lo, (4611686018427387903 : Int)), 0) := fun h => by rw [HR.out, if_neg h]
          clear HR
          by_cases hc : (4611686018427387903 : Int) < lo
          · have HR := hide (hlt2 hc)
            have hd : decide ((4611686018427387903 : Int) < lo) = true := decide_eq_true hc
            clear hlt2 hge2 hc d0 d1 d2 d3
            go_wp2_with (refine pause (.store 39 _ _) rfl ?_)
            refine unpause ?_
            refine wpList_store_blk rfl 39 (.tmp 6) (.tmp 65) rfl (w.heap.size + 1) rfl (gv 0 0) (gv 0 0) rfl (K3.out.get 0 rfl) rfl info100 (gv_one _ _) ?_
            go_wp2_with fail
            refine bodyPost_ret_by (results_cell2 rfl _ (w.heap.size + 1) rfl (gv 0 0) _ ((K3.out.get 0 rfl).setRow _) Try.underlying39 rfl info100) rfl ⟨?_, below_setRow B3.out (by omega) _⟩
            rw [HR.out]
            rfl
          · have HR := hide (hge2 hc)
            have hd : decide ((4611686018427387903 : Int) < lo) = false := decide_eq_false hc
            clear hlt2 hge2 hc d0 d1 d2 d3
            go_wp2_with (refine pause (.store 39 _ _) rfl ?_)
            refine unpause ?_
            refine wpList_store_blk rfl 39 (.tmp 6) (.tmp 68) rfl (w.heap.size + 1) rfl (gv 0 0) (gv lo (4611686018427387903 : Int)) rfl (K3.out.get 0 rfl) rfl info100 (gv_one _ _) ?_
            go_wp2_with fail
            refine bodyPost_ret_by (results_cell2 rfl _ (w.heap.size + 1) rfl (gv lo (4611686018427387903 : Int)) _ ((K3.out.get 0 rfl).setRow _) Try.underlying39 rfl info100) rfl ⟨?_, below_setRow B3.out (by omega) _⟩
            rw [HR.out]
            rfl
        · rw [show addR s.came H = (s.came + H, 0) from if_neg (by omega)] at HA
          refine (HA.out _).mono ?_
          rintro e w' ⟨rfl, hw⟩
          subst hw
          go_upto_region 12 with (fail)
          rw [← hH.out]
          have hlt2 : hi < lo → R = ((0, 0), 13) := fun h => by rw [HR.out, if_pos h]
          have hge2 : ¬ hi < lo → R = ((lo, hi), 0) := fun h => by rw [HR.out, if_neg h]
          clear HR
          by_cases hc : hi < lo
          · have HR := hide (hlt2 hc)
            have hd : decide (hi < lo) = true := decide_eq_true hc
            clear hlt2 hge2 hc d0 d1 d2 d3
            go_wp2_with (refine pause (.store 39 _ _) rfl ?_)
            refine unpause ?_
            refine wpList_store_blk rfl 39 (.tmp 6) (.tmp 65) rfl (w.heap.size + 1) rfl (gv 0 0) (gv 0 0) rfl (K3.out.get 0 rfl) rfl info100 (gv_one _ _) ?_
            go_wp2_with fail
            refine bodyPost_ret_by (results_cell2 rfl _ (w.heap.size + 1) rfl (gv 0 0) _ ((K3.out.get 0 rfl).setRow _) Try.underlying39 rfl info100) rfl ⟨?_, below_setRow B3.out (by omega) _⟩
            rw [HR.out]
            rfl
          · have HR := hide (hge2 hc)
            have hd : decide (hi < lo) = false := decide_eq_false hc
            clear hlt2 hge2 hc d0 d1 d2 d3
            go_wp2_with (refine pause (.store 39 _ _) rfl ?_)
            refine unpause ?_
            refine wpList_store_blk rfl 39 (.tmp 6) (.tmp 68) rfl (w.heap.size + 1) rfl (gv 0 0) (gv lo hi) rfl (K3.out.get 0 rfl) rfl info100 (gv_one _ _) ?_
            go_wp2_with fail
            refine bodyPost_ret_by (results_cell2 rfl _ (w.heap.size + 1) rfl (gv lo hi) _ ((K3.out.get 0 rfl).setRow _) Try.underlying39 rfl info100) rfl ⟨?_, below_setRow B3.out (by omega) _⟩
            rw [HR.out]
            rfl
end Go.Proofs.Ytgidaifoiljgoaa
