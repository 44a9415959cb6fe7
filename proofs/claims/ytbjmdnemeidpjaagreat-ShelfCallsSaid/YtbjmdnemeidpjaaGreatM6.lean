/- Parts VcU, VcV, VcW, VcY, VcZ, Frame, VcT, VcX, Vs, Ab, Gap, Meet, Rz, Ro, Rzp, ShD, Num, HistA of the proof, put together. -/
import Derived.Test.YtbjmdnemeidpjaaGreatM5
import Derived.ChangeKeysEq
import Derived.Laws.StructEq
import Derived.Shelf.SlSortCmp.NoneTotal
import Derived.ProofKit
import Derived.OpenShut
import Derived.ShutString
import Derived.ChangeOld
import Derived.SizedLaws
import Derived.Carry
import Derived.Deep.Slices
import Derived.Test.YtbjmdnemeidpjaaGreatProg
import Derived.KernelRfl
import Derived.Outline
import Derived.Test.YtbjmdnemeidpjaaGreatSrt
import Derived.Sort.Walk0
import Derived.Test.YtbjmdnemeidpjaaGreatShelf
/- Contracts of the elder kind; slices that are lent. No program is named here. -/
namespace Go.Proofs.YtbjmdnemeidpjaaGreat
set_option linter.unusedSimpArgs false
set_option linter.unusedVariables false
open Go.RowKit
mutual
def flatD : D → Bool
  | .v _ => true
  | .agg xs => flatDs xs
  | .sl _ _ => false
def flatDs : List D → Bool
  | [] => true
  | x :: r => flatD x && flatDs r
end
mutual
def flatA : AV → Bool
  | .d x => flatD x
  | .tup xs => flatAs xs
  | .any => true
  | _ => false
def flatAs : List AV → Bool
  | [] => true
  | x :: r => flatA x && flatAs r
end
section
variable {P : Program} {w w' : World} {F F' : Nat → Prop} {ρ ρ' : Nat → Option Value} {H : Hp} {L : List AObj} {n : Nat} {g : FuncId}
mutual
theorem RD.flat : ∀ (x : D) {v : Value}, flatD x = true → RD w F x v → RD w' F' x v
  | .v u, v, _, h => by cases h; exact .v _
  | .agg xs, v, l, h => by cases h with | agg h => exact .agg (RDs.flat xs (by simpa [flatD] using l) h)
  | .sl s r, v, l, _ => by simp [flatD] at l
theorem RDs.flat : ∀ (xs : List D) {vs : List Value}, flatDs xs = true → RDs w F xs vs → RDs w' F' xs vs
  | [], _, _, h => by cases h; exact .nil
  | x :: r, _, l, h => by simp [flatDs] at l; cases h with | cons h h1 hr => exact .cons (RD.flat x l.1 h) h1 (RDs.flat r l.2 hr)
end
mutual
theorem RA.flat : ∀ (x : AV) {v : Value}, flatA x = true → RA w F ρ x v → RA w' F' ρ' x v
  | .d x, v, l, h => by cases h with | d h => exact .d (h.flat x (by simpa [flatA] using l))
  | .tup xs, v, l, h => by cases h with | tup h => exact .tup (RAs.flat xs (by simpa [flatA] using l) h)
  | .any, v, _, _ => .any v
  | .ptr _ _, _, l, _ => by simp [flatA] at l
  | .own _, _, l, _ => by simp [flatA] at l
  | .ep _ _ _ _, _, l, _ => by simp [flatA] at l
  | .fp _, _, l, _ => by simp [flatA] at l
  | .agg _, _, l, _ => by simp [flatA] at l
  | .fn _ _ _, _, l, _ => by simp [flatA] at l
  | .mp _, _, l, _ => by simp [flatA] at l
theorem RAs.flat : ∀ (xs : List AV) {vs : List Value}, flatAs xs = true → RAs w F ρ xs vs → RAs w' F' ρ' xs vs
  | [], _, _, h => by cases h; exact .nil
  | x :: r, _, l, h => by simp [flatAs] at l; cases h with | cons h hr => exact .cons (RA.flat x l.1 h) (RAs.flat r l.2 hr)
end
/-! ### contracts of the elder kind -/
mutual
inductive FlatV : D → Value → Prop
  | v (u : Value) : FlatV (.v u) u
  | agg {xs : List D} {us : List Value} (h : FlatVs xs us) : FlatV (.agg xs) (.agg us.toArray)
inductive FlatVs : List D → List Value → Prop
  | nil : FlatVs [] []
  | cons {x : D} {xs : List D} {v : Value} {vs : List Value} (h : FlatV x v) (h1 : v.oneCell' = true) (hr : FlatVs xs vs) : FlatVs (x :: xs) (v :: vs)
end
mutual
inductive FlatW : AV → Value → Prop
  | d {x : D} {v : Value} (h : FlatV x v) : FlatW (.d x) v
  | tup {xs : List AV} {vs : List Value} (h : FlatWs xs vs) : FlatW (.tup xs) (.tuple vs.toArray)
inductive FlatWs : List AV → List Value → Prop
  | nil : FlatWs [] []
  | cons {x : AV} {xs : List AV} {v : Value} {vs : List Value} (h : FlatW x v) (hr : FlatWs xs vs) : FlatWs (x :: xs) (v :: vs)
end
mutual
theorem FlatV.rd : ∀ {x : D} {v : Value}, FlatV x v → RD w F x v
  | _, _, .v u => .v u
  | _, _, .agg h => .agg (FlatVs.rds h)
theorem FlatVs.rds : ∀ {x : List D} {v : List Value}, FlatVs x v → RDs w F x v
  | _, _, .nil => .nil
  | _, _, .cons h h1 hr => .cons (FlatV.rd h) h1 (FlatVs.rds hr)
end
mutual
theorem FlatV.eq : ∀ {x : D} {v u : Value}, FlatV x v → RD w F x u → u = v
  | _, _, _, .v u, h => by cases h; rfl
  | _, _, _, .agg h, k => by cases k with | agg k => rw [FlatVs.eq h k]
theorem FlatVs.eq : ∀ {x : List D} {v u : List Value}, FlatVs x v → RDs w F x u → u = v
  | _, _, _, .nil, h => by cases h; rfl
  | _, _, _, .cons h h1 hr, k => by cases k with | cons k k1 kr => rw [FlatV.eq h k, FlatVs.eq hr kr]
end
mutual
theorem FlatW.ra : ∀ {x : AV} {v : Value}, FlatW x v → RA w F ρ x v
  | _, _, .d h => .d h.rd
  | _, _, .tup h => .tup (FlatWs.ras h)
theorem FlatWs.ras : ∀ {x : List AV} {v : List Value}, FlatWs x v → RAs w F ρ x v
  | _, _, .nil => .nil
  | _, _, .cons h hr => .cons (FlatW.ra h) (FlatWs.ras hr)
end
mutual
theorem FlatW.eq : ∀ {x : AV} {v u : Value}, FlatW x v → RA w F ρ x u → u = v
  | _, _, _, .d h, k => by cases k with | d k => exact h.eq k
  | _, _, _, .tup h, k => by cases k with | tup k => rw [FlatWs.eq h k]
theorem FlatWs.eq : ∀ {x : List AV} {v u : List Value}, FlatWs x v → RAs w F ρ x u → u = v
  | _, _, _, .nil, h => by cases h; rfl
  | _, _, _, .cons h hr, k => by cases k with | cons k kr => rw [FlatW.eq h k, FlatWs.eq hr kr]
end
theorem step_below {w w' : World} (En : Env F ρ (hp []) w) (hb : Below w.heap.size w w') : Step F ρ (hp []) w F ρ (hp []) w' ∧ Env F ρ (hp []) w' := by
  have no : ∀ (i : Nat) (o : AObj), hp [] i = some o → False := fun i o h => by simp [hp] at h
  exact ⟨⟨hb.os, hb.tape, hb.output, hb.size, fun b h _ => hb.block b h, fun _ h => h, fun _ h => .inl h, fun b ⟨i, o, _, h, _⟩ => (no i o h).elim⟩,
    fun b h => Nat.lt_of_lt_of_le (En.fb b h) hb.size, En.abs, fun i o h => (no i o h).elim, fun i j o o' _ _ _ h => (no i o h).elim⟩
theorem Sat.of_calls {args : List AV} {vals : List Value} {r : AV} {rv : Value} (ha : FlatWs args vals) (hr : FlatW r rv) (h : ∀ w, Calls P g vals.toArray w fun e w' => e = .returned rv ∧ Below w.heap.size w w') : Sat P g args [] r [] := by
  intro F ρ w vs En hv
  have := ha.eq hv
  subst this
  refine (h w).mono ?_
  rintro e w' ⟨rfl, hb⟩
  obtain ⟨S, E'⟩ := step_below En hb
  exact ⟨rv, rfl, F, ρ, S, Keep.refl _, E', hr.ra⟩
theorem Sat.of_same {args : List AV} {vals : List Value} {r : AV} {rv : Value} (ha : FlatWs args vals) (hr : FlatW r rv) (h : ∀ w, Calls P g vals.toArray w fun e w' => e = .returned rv ∧ w = w') : Sat P g args [] r [] :=
  .of_calls ha hr fun w => (h w).mono fun e w' ⟨h1, h2⟩ => ⟨h1, by subst h2; exact Below.refl _ _⟩
/-! ### slices of the call's own that are lent to a function -/
def Lend (L : List AObj) : List AV → List AV → List Nat → Prop
  | [], [], ids => ids = []
  | .own i :: r, .d (.sl s rows) :: r1, ids => ∃ t, ids = i :: t ∧ L[i]? = some (.sl s rows) ∧ Lend L r r1 t
  | .d x :: r, .d y :: r1, ids => x = y ∧ Lend L r r1 ids
  | _, _, _ => False
theorem Lend.ras {F1 : Nat → Prop} (En : Env F ρ H w) (hF : ∀ b, F b → F1 b) : ∀ {args args1 : List AV} {ids : List Nat} {vs : List Value}, Lend L args args1 ids → (∀ i ∈ ids, H i = L[i]?) → (∀ i ∈ ids, ∀ h, ρ i = some h → ∀ b, blkOf h = some b → F1 b) → RAs w F ρ args vs → RAs w F1 (fun _ => none) args1 vs
  | [], [], _, _, _, _, _, h => by cases h; exact .nil
  | .d x :: r, .d y :: r1, ids, _, h, hi, hb, hv => by
    obtain ⟨rfl, h2⟩ := h
    cases hv with | cons hv hr => cases hv with | d hv => exact .cons (.d (hv.mono (fun _ _ => rfl) hF)) (Lend.ras En hF h2 hi hb hr)
  | .own i :: r, .d (.sl s rows) :: r1, ids, _, h, hi, hb, hv => by
    obtain ⟨t, rfl, h1, h2⟩ := h
    cases hv with | cons hv hr =>
      refine .cons ?_ (Lend.ras En hF h2 (fun j hj => hi j (List.mem_cons_of_mem _ hj)) (fun j hj => hb j (List.mem_cons_of_mem _ hj)) hr)
      have hi' : H i = some (.sl s rows) := by rw [hi i (List.mem_cons_self ..)]; exact h1
      cases hv with | own hv =>
        rename_i A m c
        obtain ⟨hh, e1, ⟨vs, how, hra, hs⟩, e3⟩ := En.rep i _ hi' rfl
        rw [hv] at e1; injection e1 with e1; subst e1
        obtain ⟨A', c', he, g1, g2, hrd⟩ := how.form
        injection he with q1 q2 q3
        subst q1 q2 q3
        refine .d (.sl rfl hs g1 g2 (hra.mono (fun _ _ => rfl) hF) fun hp => ?_)
        rcases Nat.eq_zero_or_pos s with hs0 | hs0
        · have hvs : vs = [] := List.eq_nil_of_length_eq_zero (by rw [hrd.1, hs0]; simp)
          subst hvs
          obtain ⟨g, off, cap, he, _⟩ := how.open_ hp
          injection he with q1 _ _
          subst q1
          exact ⟨g, off, rfl, hb i (List.mem_cons_self ..) _ hv g rfl, fun j hj => by simp at hj⟩
        · obtain ⟨b, off, rfl, _, hc⟩ := hrd.2 hp
          exact ⟨b, off, rfl, hb i (List.mem_cons_self ..) _ hv b rfl, hc⟩
  | [], _ :: _, _, _, h, _, _, _ => by simp [Lend] at h
  | .ptr .. :: _, _, _, _, h, _, _, _ => by simp [Lend] at h
  | .ep .. :: _, _, _, _, h, _, _, _ => by simp [Lend] at h
  | .fp .. :: _, _, _, _, h, _, _, _ => by simp [Lend] at h
  | .agg .. :: _, _, _, _, h, _, _, _ => by simp [Lend] at h
  | .tup .. :: _, _, _, _, h, _, _, _ => by simp [Lend] at h
  | .fn .. :: _, _, _, _, h, _, _, _ => by simp [Lend] at h
  | .mp .. :: _, _, _, _, h, _, _, _ => by simp [Lend] at h
  | .any :: _, _, _, _, h, _, _, _ => by simp [Lend] at h
  | .own _ :: _, [], _, _, h, _, _, _ => by simp [Lend] at h
  | .own _ :: _, .d (.v _) :: _, _, _, h, _, _, _ => by simp [Lend] at h
  | .own _ :: _, .d (.agg _) :: _, _, _, h, _, _, _ => by simp [Lend] at h
  | .own _ :: _, .ptr .. :: _, _, _, h, _, _, _ => by simp [Lend] at h
  | .own _ :: _, .own .. :: _, _, _, h, _, _, _ => by simp [Lend] at h
  | .own _ :: _, .ep .. :: _, _, _, h, _, _, _ => by simp [Lend] at h
  | .own _ :: _, .fp .. :: _, _, _, h, _, _, _ => by simp [Lend] at h
  | .own _ :: _, .agg .. :: _, _, _, h, _, _, _ => by simp [Lend] at h
  | .own _ :: _, .tup .. :: _, _, _, h, _, _, _ => by simp [Lend] at h
  | .own _ :: _, .fn .. :: _, _, _, h, _, _, _ => by simp [Lend] at h
  | .own _ :: _, .mp .. :: _, _, _, h, _, _, _ => by simp [Lend] at h
  | .own _ :: _, .any :: _, _, _, h, _, _, _ => by simp [Lend] at h
  | .d _ :: _, [], _, _, h, _, _, _ => by simp [Lend] at h
  | .d _ :: _, .ptr .. :: _, _, _, h, _, _, _ => by simp [Lend] at h
  | .d _ :: _, .own .. :: _, _, _, h, _, _, _ => by simp [Lend] at h
  | .d _ :: _, .ep .. :: _, _, _, h, _, _, _ => by simp [Lend] at h
  | .d _ :: _, .fp .. :: _, _, _, h, _, _, _ => by simp [Lend] at h
  | .d _ :: _, .agg .. :: _, _, _, h, _, _, _ => by simp [Lend] at h
  | .d _ :: _, .tup .. :: _, _, _, h, _, _, _ => by simp [Lend] at h
  | .d _ :: _, .fn .. :: _, _, _, h, _, _, _ => by simp [Lend] at h
  | .d _ :: _, .mp .. :: _, _, _, h, _, _, _ => by simp [Lend] at h
  | .d _ :: _, .any :: _, _, _, h, _, _, _ => by simp [Lend] at h
theorem Sat.lend {args args1 : List AV} {r : AV} {ids : List Nat} (h : Sat P g args1 [] r []) (hl : Lend L args args1 ids) (hr : flatA r = true) (hlive : ∀ i ∈ ids, ∃ o, L[i]? = some o ∧ o.live = true) : CallOK P g args L n ⟨ids, [], []⟩ r := by
  intro H F ρ w vals En hrs _ hv
  have hH : ∀ i ∈ ids, ∀ hh, ρ i = some hh → ∀ b, blkOf hh = some b → b < w.heap.size := by
    intro i hi hh hρ b hb
    obtain ⟨o, ho, hlv⟩ := hlive i hi
    obtain ⟨h0, e1, _, e3⟩ := En.rep i o (by rw [hrs i hi]; exact ho) hlv
    rw [hρ] at e1; injection e1 with e1; subst e1
    exact (e3 b hb).1
  let F1 : Nat → Prop := fun b => F b ∨ ∃ i ∈ ids, ∃ hh, ρ i = some hh ∧ blkOf hh = some b
  have E1 : Env F1 (fun _ => none) (hp []) w := ⟨fun b hb => hb.elim (En.fb b) fun ⟨i, hi, hh, h1, h2⟩ => hH i hi hh h1 b h2, fun _ _ => rfl, fun i o h => by simp [hp] at h, fun i j o o' _ _ _ h => by simp [hp] at h⟩
  refine (h F1 (fun _ => none) w vals E1 (hl.ras En (fun _ h => .inl h) hrs (fun i hi hh h1 b h2 => .inr ⟨i, hi, hh, h1, h2⟩) hv)).mono ?_
  rintro en w' ⟨v, rfl, F2, ρ2, S, _, E2, R⟩
  have hold : ∀ b, b < w.heap.size → w'.heap[b]? = w.heap[b]? := fun b hb => S.unch b hb fun ⟨i, o, _, h, _⟩ => by simp [hp] at h
  refine ⟨v, rfl, fun b => F2 b ∧ (F b ∨ w.heap.size ≤ b), ρ, ⟨S.os, S.tape, S.output, S.size, fun b hb _ => hold b hb, fun b hb => ⟨S.fsub b (.inl hb), .inl hb⟩, fun b hb => hb.2.elim .inl fun q => .inr (.inl q), fun b hb => .inr hb⟩, Keep.refl _, ?_, R.flat r hr⟩
  refine ⟨fun b hb => E2.fb b hb.1, En.abs, fun i o hi hlv => ?_, En.inj⟩
  obtain ⟨hh, e1, e2, e3⟩ := En.rep i o hi hlv
  exact ⟨hh, e1, e2.mono S.size (fun b _ hlt => hold b hlt) (fun b hb => hold b (En.fb b hb)) (fun b hb => ⟨S.fsub b (.inl hb), .inl hb⟩) (Keep.refl _), fun b hb => ⟨Nat.lt_of_lt_of_le (e3 b hb).1 S.size, fun q => q.2.elim (e3 b hb).2 fun q => by have := (e3 b hb).1; omega⟩⟩
theorem lend_live {args args1 : List AV} {ids : List Nat} : Lend L args args1 ids → ∀ i ∈ ids, ∃ o, L[i]? = some o ∧ o.live = true := by
  induction args generalizing args1 ids with
  | nil => intro h i hi; cases args1 <;> simp [Lend] at h; subst h; simp at hi
  | cons x r ih =>
    intro h i hi
    cases args1 with
    | nil => cases x <;> simp [Lend] at h
    | cons y r1 =>
      cases x <;> try (simp [Lend] at h; done)
      · cases y <;> try (simp [Lend] at h; done)
        exact ih h.2 i hi
      · cases y <;> try (simp [Lend] at h; done)
        rename_i j y
        cases y <;> try (simp [Lend] at h; done)
        obtain ⟨t, rfl, h1, h2⟩ := h
        rcases List.mem_cons.1 hi with e | e
        · subst e; exact ⟨_, h1, rfl⟩
        · exact ih h2 i e
/-- .. as it is used: one slice, lent in the first place. -/
theorem Sat.lend1 {i s : Nat} {rows : List (List D)} {aas : List D} {r : AV} (h : Sat P g (.d (.sl s rows) :: aas.map .d) [] r []) (hi : L[i]? = some (.sl s rows)) (hr : flatA r = true) : CallOK P g (.own i :: aas.map .d) L n ⟨[i], [], []⟩ r := by
  have hall : ∀ (aas : List D), Lend L (aas.map .d) (aas.map .d) [] := by
    intro aas
    induction aas with
    | nil => rfl
    | cons a aas ih => exact ⟨rfl, ih⟩
  have hl : Lend L (.own i :: aas.map .d) (.d (.sl s rows) :: aas.map .d) [i] := ⟨[], rfl, hi, hall aas⟩
  exact h.lend hl hr (lend_live hl)
theorem appW_dead : ∀ {ids : List Nat} {H : Hp} {k : Nat}, appW (ids.map fun i => (i, AObj.dead)) H k = if k ∈ ids then some .dead else H k
  | [], H, k => by simp [appW]
  | i :: r, H, k => by
    rw [List.map_cons, appW, appW_dead (ids := r)]
    by_cases h : k ∈ r
    · rw [if_pos h, if_pos (List.mem_cons_of_mem _ h)]
    · rw [if_neg h]
      by_cases e : k = i
      · subst e; rw [updF_same, if_pos (List.mem_cons_self ..)]
      · rw [updF_ne _ _ e, if_neg (by simp [e, h])]
/-- Slices of the call's own that are data from the call on. -/
theorem Sat.frz {args args1 : List AV} {r : AV} {ids : List Nat} (h : Sat P g args1 [] r []) (hl : Lend L args args1 ids) (hr : AV.lt 0 r = true) : CallOK P g args L n ⟨ids, ids.map fun i => (i, .dead), []⟩ r := by
  have hlive := lend_live hl
  intro H F ρ w vals En hrs _ hv
  have hH : ∀ i ∈ ids, ∀ hh, ρ i = some hh → ∀ b, blkOf hh = some b → b < w.heap.size ∧ Lv ρ H b := by
    intro i hi hh hρ b hb
    obtain ⟨o, ho, hlv⟩ := hlive i hi
    have ho' : H i = some o := by rw [hrs i hi]; exact ho
    obtain ⟨h0, e1, _, e3⟩ := En.rep i o ho' hlv
    rw [hρ] at e1; injection e1 with e1; subst e1
    exact ⟨(e3 b hb).1, i, o, hh, ho', hlv, hρ, hb⟩
  let F1 : Nat → Prop := fun b => F b ∨ ∃ i ∈ ids, ∃ hh, ρ i = some hh ∧ blkOf hh = some b
  have E1 : Env F1 (fun _ => none) (hp []) w := ⟨fun b hb => hb.elim (En.fb b) fun ⟨i, hi, hh, h1, h2⟩ => (hH i hi hh h1 b h2).1, fun _ _ => rfl, fun i o h => by simp [hp] at h, fun i j o o' _ _ _ h => by simp [hp] at h⟩
  refine (h F1 (fun _ => none) w vals E1 (hl.ras En (fun _ h => .inl h) hrs (fun i hi hh h1 b h2 => .inr ⟨i, hi, hh, h1, h2⟩) hv)).mono ?_
  rintro en w' ⟨v, rfl, F2, ρ2, S, _, E2, R⟩
  have nolv : ∀ b, ¬ Lv (fun _ => none) (hp []) b := fun b ⟨i, o, _, h, _⟩ => by simp [hp] at h
  have hold : ∀ b, b < w.heap.size → w'.heap[b]? = w.heap[b]? := fun b hb => S.unch b hb (nolv b)
  have hHk : ∀ i o, appN n [] (appW (ids.map fun i => (i, AObj.dead)) H) i = some o → o.live = true → i ∉ ids ∧ H i = some o := by
    intro i o hi hlv
    rw [appN, appW_dead] at hi
    split at hi
    · injection hi with hi; subst hi; cases hlv
    · rename_i hni; exact ⟨hni, hi⟩
  refine ⟨v, rfl, F2, ρ, ⟨S.os, S.tape, S.output, S.size, fun b hb _ => hold b hb, fun b hb => S.fsub b (.inl hb), fun b hb => ?_, fun b ⟨i, o, hh, h1, h2, h3, h4⟩ => .inr ⟨i, o, hh, (hHk i o h1 h2).2, h2, h3, h4⟩⟩, Keep.refl _, ⟨E2.fb, fun i hi => ?_, fun i o hi hlv => ?_, fun i j o o' hh hh' b e1 e2 l1 l2 => En.inj i j o o' hh hh' b (hHk i o e1 l1).2 (hHk j o' e2 l2).2 l1 l2⟩, ?_⟩
  · rcases S.fsrc b hb with q | q | q
    · rcases q with q | ⟨i, hi, hh, h1, h2⟩
      · exact .inl q
      · exact .inr (.inr (hH i hi hh h1 b h2).2)
    · exact .inr (.inl q)
    · exact (nolv b q).elim
  · rw [appN, appW_dead] at hi
    split at hi
    · cases hi
    · exact En.abs i hi
  · obtain ⟨hni, hi'⟩ := hHk i o hi hlv
    obtain ⟨hh, e1, e2, e3⟩ := En.rep i o hi' hlv
    refine ⟨hh, e1, e2.mono S.size (fun b _ hlt => hold b hlt) (fun b hb => hold b (En.fb b hb)) (fun b hb => S.fsub b (.inl hb)) (Keep.refl _), fun b hb => ⟨Nat.lt_of_lt_of_le (e3 b hb).1 S.size, fun q => ?_⟩⟩
    rcases S.fsrc b q with q | q | q
    · rcases q with q | ⟨j, hj, hh', h1, h2⟩
      · exact (e3 b hb).2 q
      · obtain ⟨oj, hoj, hlj⟩ := hlive j hj
        have := En.inj i j o oj hh hh' b hi' (by rw [hrs j hj]; exact hoj) hlv hlj e1 h1 hb h2
        subst this
        exact hni hj
    · have := (e3 b hb).1; omega
    · exact (nolv b q).elim
  · exact RA.low (m := 0) (fun j h hj => absurd hj (Nat.not_lt_zero _)) r hr R
/-- Data of a slice, as the elder contracts have it. -/
theorem RD.sl_rd {s : Nat} {rows : List (List D)} {us : List Value} {v : Value} (h : RD w F (.sl s rows) v) (hF : ∀ b, F b → b < w.heap.size) (hf : FlatVs rows.flatten us) : ∃ A c, v = .slice A rows.length c ∧ rows.length ≤ c ∧ c ≤ maxLen ∧ Rd w w.heap.size s A rows.length us := by
  cases h with | sl hn hs h1 h2 hr hm =>
    subst hn
    have := hf.eq hr
    subst this
    refine ⟨_, _, rfl, h1, h2, ⟨by rw [hr.length, flat_len hs], fun hp => ?_⟩⟩
    obtain ⟨b, off, e, hb, hc⟩ := hm hp
    exact ⟨b, off, e, hF b hb, hc⟩
end
end Go.Proofs.YtbjmdnemeidpjaaGreat
/- Operations on slices, as they are asked for by the conditions. No program is named here. -/
namespace Go.Proofs.YtbjmdnemeidpjaaGreat
set_option linter.unusedSimpArgs false
set_option linter.unusedVariables false
open Go.RowKit
def slB (P : Program) (t s b : Nat) : Bool :=
  match (tiOf P t).kind with
  | .sli => Nat.beq (tiOf P t).esize s && Nat.blt 0 s && Nat.beq (tiOf P t).ebytes b && Nat.blt 0 b && (match (tiOf P (tiOf P t).elem).kind with | .non => false | _ => true)
  | _ => false
section
variable {P : Program} {w w' : World} {F F' : Nat → Prop} {ρ ρ' : Nat → Option Value} {H : Hp} {L : List AObj} {ty n t s b i j : Nat} {rows rows2 : List (List D)} {sx xx a1 a2 : Operand} {c lo hi : Nat} {kd kd' kl kh : IntKind}
theorem slB_out (h : slB P t s b = true) : (tiOf P t).kind = .sli ∧ (tiOf P t).esize = s ∧ 0 < s ∧ (tiOf P t).ebytes = b ∧ 0 < b ∧ (tiOf P (tiOf P t).elem).kind ≠ .non := by
  unfold slB at h
  split at h
  · rename_i hk
    simp only [Bool.and_eq_true, Nat.blt_eq] at h
    refine ⟨hk, Nat.eq_of_beq_eq_true h.1.1.1.1, h.1.1.1.2, Nat.eq_of_beq_eq_true h.1.1.2, h.1.2, fun e => ?_⟩
    have := h.2
    rw [e] at this; cases this
  · cases h
theorem le_max {k b : Nat} (hb : 0 < b) (h : k * b ≤ 140737488355328) : k ≤ maxLen := by
  have : k ≤ k * b := Nat.le_mul_of_pos_right _ hb
  unfold maxLen; omega
theorem ap (s b : Nat) (h : slB P t s b = true) (hi : L[i]? = some (.sl s rows)) (hj : L[j]? = some (.sl s rows2)) (hb : (rows.length + rows2.length) * b ≤ 140737488355328) : Does P (.call { callee := .builtin .append, args := #[sx, xx], argTypes := #[t, t] }) ty L n [.own i, .own j] ⟨[i, j], [(i, .dead)], [.sl s (rows ++ rows2)]⟩ (.own n) := by
  obtain ⟨h1, h2, h3, h4, h6, h5⟩ := slB_out h
  subst h4
  exact does_append h1 h2 h3 h5 hi (.inr (.inl ⟨j, rfl, hj, rfl⟩)) hb (le_max h6 hb)
/-- .. of data. -/
theorem apd (s b : Nat) (h : slB P t s b = true) (hi : L[i]? = some (.sl s rows)) (hb : (rows.length + rows2.length) * b ≤ 140737488355328) : Does P (.call { callee := .builtin .append, args := #[sx, xx], argTypes := #[t, t] }) ty L n [.own i, .d (.sl s rows2)] ⟨[i], [(i, .dead)], [.sl s (rows ++ rows2)]⟩ (.own n) := by
  obtain ⟨h1, h2, h3, h4, h6, h5⟩ := slB_out h
  subst h4
  exact does_append h1 h2 h3 h5 hi (.inl ⟨rfl, rfl⟩) hb (le_max h6 hb)
theorem mkf (s b : Nat) (h : slB P t s b = true) (hb : b * c ≤ 281474976710656) (hm : c ≤ maxLen) : Does P (.makeSlice t a1 a2) ty L n [.d (.v (.int kd c)), .d (.v (.int kd' c))] ⟨[], [], [.sl s (List.replicate c ((tiOf P (tiOf P t).elem).zero.map .v))]⟩ (.own n) := by
  obtain ⟨h1, h2, h3, h4, _, h5⟩ := slB_out h
  exact does_make h1 h2 h3 h5 (by rw [h4]; exact hb) hm
theorem from_d (s b : Nat) (h : slB P t s b = true) (h1 : lo ≤ rows.length) : Does P (.slice t sx (some a1) none none) ty L n [.d (.sl s rows), .d (.v (.int kl lo))] e0 (.d (.sl s (rows.drop lo))) := by
  obtain ⟨g1, g2, g3, _⟩ := slB_out h
  exact does_from g1 g2 g3 h1
theorem upto_d (s b : Nat) (h : slB P t s b = true) (h1 : hi ≤ rows.length) : Does P (.slice t sx none (some a2) none) ty L n [.d (.sl s rows), .d (.v (.int kh hi))] e0 (.d (.sl s (rows.take hi))) := by
  obtain ⟨g1, g2, g3, _⟩ := slB_out h
  exact does_upto g1 g2 g3 h1
/-- A call with one object of the caller's. -/
theorem Sat.at1 {g : FuncId} {args : List AV} {o o' : AObj} {N : List AObj} {r : AV} (h : Sat P g args [o] r (o' :: N)) (a : Nat) (hlive : o.live = true) (hids : (AV.lts 1 args && AObj.lts 1 [o]) = true)
    (ha : L[a]? = some (o.rn (sub [a] n))) : CallOK P g (AV.rns (sub [a] n) args) L n ⟨[a], [(a, o'.rn (sub [a] n))], AObj.rns (sub [a] n) N⟩ (r.rn (sub [a] n)) :=
  h.at_ [a] L n rfl (by simp) rfl (by simp [AObj.lives, hlive]) hids fun j hj => by
    match j, hj with
    | 0, _ => exact ha
/-- .. with two. -/
theorem Sat.at2 {g : FuncId} {args : List AV} {o o' p p' : AObj} {N : List AObj} {r : AV} (h : Sat P g args [o, p] r (o' :: p' :: N)) (a b : Nat) (hab : Nat.beq a b = false) (hlive : (o.live && p.live) = true) (hids : (AV.lts 2 args && AObj.lts 2 [o, p]) = true)
    (ha : L[a]? = some (o.rn (sub [a, b] n))) (hb : L[b]? = some (p.rn (sub [a, b] n))) : CallOK P g (AV.rns (sub [a, b] n) args) L n ⟨[a, b], [(a, o'.rn (sub [a, b] n)), (b, p'.rn (sub [a, b] n))], AObj.rns (sub [a, b] n) N⟩ (r.rn (sub [a, b] n)) := by
  simp only [Bool.and_eq_true] at hlive
  have hne : a ≠ b := fun e => by subst e; simp at hab
  exact h.at_ [a, b] L n rfl (by simp [hne]) rfl (by simp [AObj.lives, hlive]) hids fun j hj => by
    match j, hj with
    | 0, _ => exact ha
    | 1, _ => exact hb
/-- .. with three. -/
theorem Sat.at3 {g : FuncId} {args : List AV} {o o' p p' q q' : AObj} {N : List AObj} {r : AV} (h : Sat P g args [o, p, q] r (o' :: p' :: q' :: N)) (a b c : Nat) (hab : (Nat.beq a b || Nat.beq a c || Nat.beq b c) = false) (hlive : (o.live && p.live && q.live) = true) (hids : (AV.lts 3 args && AObj.lts 3 [o, p, q]) = true)
    (ha : L[a]? = some (o.rn (sub [a, b, c] n))) (hb : L[b]? = some (p.rn (sub [a, b, c] n))) (hc : L[c]? = some (q.rn (sub [a, b, c] n))) :
    CallOK P g (AV.rns (sub [a, b, c] n) args) L n ⟨[a, b, c], [(a, o'.rn (sub [a, b, c] n)), (b, p'.rn (sub [a, b, c] n)), (c, q'.rn (sub [a, b, c] n))], AObj.rns (sub [a, b, c] n) N⟩ (r.rn (sub [a, b, c] n)) := by
  simp only [Bool.and_eq_true] at hlive
  simp only [Bool.or_eq_false_iff] at hab
  have h1 : a ≠ b := fun e => by subst e; simp at hab
  have h2 : a ≠ c := fun e => by subst e; simp at hab
  have h3 : b ≠ c := fun e => by subst e; simp at hab
  exact h.at_ [a, b, c] L n rfl (by simp [h1, h2, h3]) rfl (by simp [AObj.lives, hlive]) hids fun j hj => by
    match j, hj with
    | 0, _ => exact ha
    | 1, _ => exact hb
    | 2, _ => exact hc
theorem lendO {g : Nat} {r : AV} (h : Sat P g [.d (.sl s rows)] [] r []) (hi : L[i]? = some (.sl s rows)) (hr : flatA r = true) : CallOK P g [.own i] L n ⟨[i], [], []⟩ r := Sat.lend1 (aas := []) h hi hr
end
theorem wi {n : Int} (h1 : -9223372036854775808 ≤ n) (h2 : n ≤ 9223372036854775807) : IntKind.i64.wrap n = n := by rw [IntKind.wrap_i64]; omega
/-- A counter goes on by one. -/
theorem wk1 {k : Nat} (h : k ≤ 9223372036854775806) : AV.d (.v (.int .i64 (IntKind.i64.wrap ((k : Int) + 1)))) = AV.d (.v (.int .i64 ((k + 1 : Nat) : Int))) := by rw [wi (by omega) (by omega)]; rfl
end Go.Proofs.YtbjmdnemeidpjaaGreat
/- Comparisons of pointers, truth values and structs. No program is named here. -/
namespace Go.Proofs.YtbjmdnemeidpjaaGreat
set_option linter.unusedSimpArgs false
set_option linter.unusedVariables false
open Go.RowKit
section
variable {P : Program} {w w' : World} {F F' : Nat → Prop} {ρ ρ' : Nat → Option Value} {H : Hp} {L : List AObj} {ty n : Nat} {x y : Operand} {t t' : TypeId}
def isBoolT (P : Program) (t : TypeId) : Bool := match P.underlying t with | some .bool => true | _ => false
def isPtrT (P : Program) (t : TypeId) : Bool := match P.underlying t with | some (.pointer _) => true | _ => false
theorem isPtrT_out (h : isPtrT P t = true) : ∃ e, P.underlying t = some (.pointer e) := by
  unfold isPtrT at h
  split at h
  · exact ⟨_, by assumption⟩
  · cases h
theorem isBoolT_out (h : isBoolT P t = true) : P.underlying t = some .bool := by
  unfold isBoolT at h
  split at h
  · assumption
  · cases h
theorem does_ra2 {op : Op} {x y : Operand} {a b : AV} {r : Value} (hop : op.operands = #[x, y]) (h : ∀ (o : Oper) (w : World) (F : Nat → Prop) (ρ : Nat → Option Value) (ev : Operand → Value) (u v : Value), o.op = op → ev x = u → ev y = v → RA w F ρ a u → RA w F ρ b v → (execOp ev o).run P w = .ok (.value r) w) : Does P op ty L n [a, b] e0 (.d (.v r)) :=
  does_val fun o w F ρ ev ho _ hx => by
    rw [hop] at hx
    obtain ⟨v1, v2, e, h1, h2⟩ := hx.two_out
    simp at e
    exact ⟨r, h o w F ρ ev v1 v2 ho e.1 e.2 h1 h2, .d (.v r)⟩
theorem run_eq {op : BinOp} {u v : Value} {b c : Bool} {g : Bool → Bool} (hb : ∀ d : Nat, (Op.equalIn (d + 1) t u v).run P w = .ok b w) (hf : binOp op t u v = (do let r ← Op.equal t u v; pure (.bool (g r))))
    (hc : c = g b) : (binOp op t u v).run P w = .ok (.bool c) w := by
  rw [hf, hc]
  have h := hb 9999
  simp [Op.equal, Op.maxDepth, h]
theorem eq_form (u v : Value) (h : (match u, v with | .int .., .int .. => false | .float .., .float .. => false | .complex .., .complex .. => false | .string _, .string _ => false | _, _ => true) = true) : binOp .eql t u v = (do let r ← Op.equal t u v; pure (.bool (id r))) := by
  cases u <;> cases v <;> first | rfl | (simp at h; done)
theorem ne_form (u v : Value) (h : (match u, v with | .int .., .int .. => false | .float .., .float .. => false | .complex .., .complex .. => false | .string _, .string _ => false | _, _ => true) = true) : binOp .neq t u v = (do let r ← Op.equal t u v; pure (.bool (!r))) := by
  cases u <;> cases v <;> first | rfl | (simp at h; done)
theorem guard_form {op : BinOp} (u v : Value) (h : (match u, v with | .nilIface, .nilIface => false | .agg _, .agg _ => false | _, _ => true) = true) : (eqGuard op t x y u v).run P w = .ok () w := by
  cases u <;> cases v <;> first | (cases op <;> rfl) | (simp at h)
theorem exec_eq {op : BinOp} {o : Oper} {ev : Operand → Value} {u v : Value} {c : Bool} (ho : o.op = .binOp op t x y t') (h1 : ev x = u) (h2 : ev y = v) (hg : (eqGuard op t x y u v).run P w = .ok () w) (hb : (binOp op t u v).run P w = .ok (.bool c) w) :
    (execOp ev o).run P w = .ok (.value (.bool c)) w := by
  simp only [execOp, ho, h1, h2]
  simp [hg, hb]
theorem eqB {a b : Bool} (h : isBoolT P t = true) : Does P (.binOp .eql t x y t') ty L n [.d (.v (.bool a)), .d (.v (.bool b))] e0 (.d (.v (.bool (a == b)))) :=
  does_lit2 rfl fun o w ev ho h1 h2 => exec_eq ho h1 h2 (guard_form _ _ rfl) (run_eq (b := a == b) (fun d => by simp [Op.equalIn, run_underlying (isBoolT_out h)]) (eq_form _ _ rfl) rfl)
theorem neB {a b : Bool} (h : isBoolT P t = true) : Does P (.binOp .neq t x y t') ty L n [.d (.v (.bool a)), .d (.v (.bool b))] e0 (.d (.v (.bool (a != b)))) :=
  does_lit2 rfl fun o w ev ho h1 h2 => exec_eq ho h1 h2 (guard_form _ _ rfl) (run_eq (b := a == b) (fun d => by simp [Op.equalIn, run_underlying (isBoolT_out h)]) (ne_form _ _ rfl) rfl)
theorem eqP {i k : Nat} (h : isPtrT P t = true) : Does P (.binOp .eql t x y t') ty L n [.ptr i k, .d (.v (.pointer none))] e0 (.d (.v (.bool false))) :=
  does_ra2 rfl fun o w F ρ ev u v ho h1 h2 hu hv => by
    obtain ⟨e, he⟩ := isPtrT_out h
    have := hv.v_out
    subst this
    cases hu
    exact exec_eq ho h1 h2 (guard_form _ _ rfl) (run_eq (b := false) (fun d => by simp [Op.equalIn, run_underlying he]) (eq_form _ _ rfl) rfl)
theorem eqN (h : isPtrT P t = true) : Does P (.binOp .eql t x y t') ty L n [.d (.v (.pointer none)), .d (.v (.pointer none))] e0 (.d (.v (.bool true))) :=
  does_lit2 rfl fun o w ev ho h1 h2 => by
    obtain ⟨e, he⟩ := isPtrT_out h
    exact exec_eq ho h1 h2 (guard_form _ _ rfl) (run_eq (b := true) (fun d => by simp [Op.equalIn, run_underlying he]) (eq_form _ _ rfl) rfl)
/-! ### structs of numbers -/
def intT (P : Program) (t : TypeId) : Bool := match P.underlying t with | some (.int _) => true | _ => false
theorem intT_out (h : intT P t = true) : ∃ k, P.underlying t = some (.int k) := by
  unfold intT at h
  split at h
  · exact ⟨_, by assumption⟩
  · cases h
def eq2T (P : Program) (t : TypeId) : Bool := match P.underlying t with
  | some (.struct fs) => (match fs.toList with
    | [f, g] => !P.stoodInHeld t && !P.eqGuardType P.depth t && f.name != "_" && Nat.beq f.offset 0 && intT P f.type && g.name != "_" && Nat.beq g.offset 1 && intT P g.type
    | _ => false)
  | _ => false
theorem run_eq2 {k k' : IntKind} {a b c d : Int} (h : eq2T P t = true) (m : Nat) : (Op.equalIn (m + 2) t (.agg #[.int k a, .int k' b]) (.agg #[.int k c, .int k' d])).run P w = .ok (a == c && b == d) w := by
  unfold eq2T at h
  split at h
  · rename_i fs hu
    split at h
    · rename_i f g hfs
      obtain rfl : fs = #[f, g] := by cases fs; simp at hfs; rw [hfs]
      simp only [Bool.and_eq_true, Bool.not_eq_true', bne_iff_ne] at h
      obtain ⟨⟨⟨⟨⟨⟨⟨h1, _⟩, h3⟩, h4⟩, h5⟩, h6⟩, h7⟩, h8⟩ := h
      obtain ⟨q1, e1⟩ := intT_out h5
      obtain ⟨q2, e2⟩ := intT_out h8
      have h4 := Nat.eq_of_beq_eq_true h4
      have h7 := Nat.eq_of_beq_eq_true h7
      have p1 : ∀ u v : Value, (part f.type #[u, v] 0).run P w = .ok u w := fun u v => by simp [part, isAgg, run_underlying e1]
      have p2 : ∀ u v : Value, (part g.type #[u, v] 1).run P w = .ok v w := fun u v => by simp [part, isAgg, run_underlying e2]
      have q1 : ∀ m a c, (Op.equalIn (m + 1) f.type (.int k a) (.int k c)).run P w = .ok (a == c) w := fun m a c => by simp [Op.equalIn, run_underlying e1]
      have q2 : ∀ m a c, (Op.equalIn (m + 1) g.type (.int k' a) (.int k' c)).run P w = .ok (a == c) w := fun m a c => by simp [Op.equalIn, run_underlying e2]
      rw [Op.equalIn]
      simp [run_underlying hu, h1, h3, h6, h4, h7, p1, p2, q1, q2]
      cases hac : a == c <;> cases hbd : b == d <;> simp_all
    · cases h
  · cases h
theorem eq2_guard {op : BinOp} {us vs : Array Value} (h : eq2T P t = true) : (eqGuard op t x y (.agg us) (.agg vs)).run P w = .ok () w := by
  have hg : P.eqGuardType P.depth t = false := by
    unfold eq2T at h
    split at h
    · split at h
      · simp only [Bool.and_eq_true, Bool.not_eq_true', bne_iff_ne] at h
        exact h.1.1.1.1.1.1.2
      · cases h
    · cases h
  cases op <;> simp [eqGuard, hg]
theorem run_equal2 {k k' : IntKind} {a b c d : Int} (h : eq2T P t = true) : (Op.equal t (.agg #[.int k a, .int k' b]) (.agg #[.int k c, .int k' d])).run P w = .ok (a == c && b == d) w := run_eq2 h 9998
theorem agg2 {k k' : IntKind} {a b : Int} {v : Value} (h : RA w F ρ (.d (.agg [.v (.int k a), .v (.int k' b)])) v) : v = .agg #[.int k a, .int k' b] :=
  FlatW.eq (by repeat constructor) h
/-- Two structs of two numbers. -/
theorem eqS {k k' : IntKind} {a b c d : Int} (h : eq2T P t = true) : Does P (.binOp .eql t x y t') ty L n [.d (.agg [.v (.int k a), .v (.int k' b)]), .d (.agg [.v (.int k c), .v (.int k' d)])] e0 (.d (.v (.bool (a == c && b == d)))) :=
  does_ra2 rfl fun o w F ρ ev u v ho h1 h2 hu hv => by
    have := agg2 hu
    subst this
    have := agg2 hv
    subst this
    exact exec_eq ho h1 h2 (eq2_guard h) (by rw [eq_form _ _ rfl]; simp [run_equal2 h])
theorem neS {k k' : IntKind} {a b c d : Int} (h : eq2T P t = true) : Does P (.binOp .neq t x y t') ty L n [.d (.agg [.v (.int k a), .v (.int k' b)]), .d (.agg [.v (.int k c), .v (.int k' d)])] e0 (.d (.v (.bool (!(a == c && b == d))))) :=
  does_ra2 rfl fun o w F ρ ev u v ho h1 h2 hu hv => by
    have := agg2 hu
    subst this
    have := agg2 hv
    subst this
    exact exec_eq ho h1 h2 (eq2_guard h) (by rw [ne_form _ _ rfl]; simp [run_equal2 h])
end
end Go.Proofs.YtbjmdnemeidpjaaGreat
/- Comparisons of structs of numbers, truth values and strings. No program is named here. -/
namespace Go.Proofs.YtbjmdnemeidpjaaGreat
set_option linter.unusedSimpArgs false
set_option linter.unusedVariables false
open Go.RowKit
section
variable {P : Program} {w w' : World} {F F' : Nat → Prop} {ρ ρ' : Nat → Option Value} {H : Hp} {L : List AObj} {ty n : Nat} {x y : Operand} {t t' : TypeId}
def tagT (P : Program) (t : TypeId) : Nat := match P.underlying t with | some (.int _) => 1 | some .bool => 2 | some .string => 3 | _ => 0
def flatGo (P : Program) : List Field → Nat → List Nat → Bool
  | [], _, [] => true
  | f :: fs, o, k :: ks => f.name != "_" && Nat.beq f.offset o && Nat.beq (tagT P f.type) k && Nat.blt 0 k && flatGo P fs (o + 1) ks
  | _, _, _ => false
/-- A struct of such cells. -/
def flatB (P : Program) (t : TypeId) (ks : List Nat) : Bool := match P.underlying t with
  | some (.struct fs) => !P.stoodInHeld t && !P.eqGuardType P.depth t && flatGo P fs.toList 0 ks
  | _ => false
def eqV : Nat → D → D → Option Bool
  | 1, .v (.int k a), .v (.int k' b) => match kEq k k' with | true => some (a == b) | false => none
  | 2, .v (.bool a), .v (.bool b) => some (a == b)
  | 3, .v (.string a), .v (.string b) => some (a == b)
  | _, _, _ => none
def eqL : List Nat → List D → List D → Option Bool
  | [], [], [] => some true
  | k :: ks, x :: xs, y :: ys => match ks with
    | [] => (match xs, ys with | [], [] => eqV k x y | _, _ => none)
    | k' :: ks' => (match eqV k x y with
      | some a => (match eqL (k' :: ks') xs ys with | some b => some (a && b) | none => none)
      | none => none)
  | _, _, _ => none
def unD : D → Value
  | .v u => u
  | _ => undef
theorem eqV_out {k : Nat} {x y : D} {b : Bool} (h : eqV k x y = some b) : (k = 1 ∧ ∃ q a c, x = .v (.int q a) ∧ y = .v (.int q c) ∧ b = (a == c)) ∨ (k = 2 ∧ ∃ a c, x = .v (.bool a) ∧ y = .v (.bool c) ∧ b = (a == c)) ∨ (k = 3 ∧ ∃ a c, x = .v (.string a) ∧ y = .v (.string c) ∧ b = (a == c)) := by
  unfold eqV at h
  split at h
  · split at h
    · rename_i hk
      obtain rfl := kEq_out hk
      injection h with h
      exact .inl ⟨rfl, _, _, _, rfl, rfl, h.symm⟩
    · cases h
  · injection h with h
    exact .inr (.inl ⟨rfl, _, _, rfl, rfl, h.symm⟩)
  · injection h with h
    exact .inr (.inr ⟨rfl, _, _, rfl, rfl, h.symm⟩)
  · cases h
theorem tagT_one {t : TypeId} (h : tagT P t = 1) : ∃ k, P.underlying t = some (.int k) := by
  unfold tagT at h
  split at h <;> first | exact ⟨_, by assumption⟩ | (exact absurd h (by decide))
theorem tagT_two {t : TypeId} (h : tagT P t = 2) : P.underlying t = some .bool := by
  unfold tagT at h
  split at h <;> first | assumption | (exact absurd h (by decide))
theorem tagT_three {t : TypeId} (h : tagT P t = 3) : P.underlying t = some .string := by
  unfold tagT at h
  split at h <;> first | assumption | (exact absurd h (by decide))
theorem eqV_run {k : Nat} {x y : D} {b : Bool} (h : eqV k x y = some b) {t : TypeId} (ht : tagT P t = k) (m : Nat) : (Op.equalIn (m + 1) t (unD x) (unD y)).run P w = .ok b w := by
  rcases eqV_out h with ⟨rfl, q, a, c, rfl, rfl, rfl⟩ | ⟨rfl, a, c, rfl, rfl, rfl⟩ | ⟨rfl, a, c, rfl, rfl, rfl⟩
  · obtain ⟨k, hk⟩ := tagT_one ht
    simp [unD, Op.equalIn, run_underlying hk]
  · simp [unD, Op.equalIn, run_underlying (tagT_two ht)]
  · simp [unD, Op.equalIn, run_underlying (tagT_three ht)]
theorem eqV_unD {k : Nat} {x y : D} {b : Bool} (h : eqV k x y = some b) : x = .v (unD x) ∧ y = .v (unD y) := by
  rcases eqV_out h with ⟨rfl, q, a, c, rfl, rfl, rfl⟩ | ⟨rfl, a, c, rfl, rfl, rfl⟩ | ⟨rfl, a, c, rfl, rfl, rfl⟩ <;> exact ⟨rfl, rfl⟩
theorem part_tag {t : TypeId} {k : Nat} (ht : tagT P t = k) (h0 : 0 < k) {cs : Array Value} {o : Nat} {v : Value} (hv : cs[o]? = some v) : (part t cs o).run P w = .ok v w := by
  have : ∃ d, P.underlying t = some d ∧ (match d with | .struct _ => false | .array _ _ => false | _ => true) = true := by
    unfold tagT at ht
    split at ht
    · exact ⟨_, by assumption, rfl⟩
    · exact ⟨_, by assumption, rfl⟩
    · exact ⟨_, by assumption, rfl⟩
    · omega
  obtain ⟨d, hd, h1⟩ := this
  cases d <;> first | (cases h1; done) | simp [part, isAgg, run_underlying hd, hv]
theorem eqL_cons {k : Nat} {ks : List Nat} {xs ys : List D} {b : Bool} (h : eqL (k :: ks) xs ys = some b) : ∃ x xs' y ys' a c, xs = x :: xs' ∧ ys = y :: ys' ∧ eqV k x y = some a ∧ eqL ks xs' ys' = some c ∧ b = (a && c) := by
  cases xs with
  | nil => simp [eqL] at h
  | cons x xs =>
    cases ys with
    | nil => simp [eqL] at h
    | cons y ys =>
      cases ks with
      | nil =>
        cases xs with
        | nil =>
          cases ys with
          | nil => exact ⟨x, [], y, [], b, true, rfl, rfl, h, rfl, by simp⟩
          | cons _ _ => simp [eqL] at h
        | cons _ _ => simp [eqL] at h
      | cons k' ks =>
        rw [eqL] at h
        cases h1 : eqV k x y with
        | none => simp [h1] at h
        | some a =>
          cases h2 : eqL (k' :: ks) xs ys with
          | none => simp [h1, h2] at h
          | some c =>
            simp [h1, h2] at h
            exact ⟨x, xs, y, ys, a, c, rfl, rfl, h1, h2, h.symm⟩
theorem eqL_nil {xs ys : List D} {b : Bool} (h : eqL [] xs ys = some b) : xs = [] ∧ ys = [] ∧ b = true := by
  cases xs <;> cases ys <;> simp [eqL] at h
  exact ⟨rfl, rfl, h⟩
theorem eqL_unD : ∀ {ks : List Nat} {xs ys : List D} {b : Bool}, eqL ks xs ys = some b → xs = xs.map (fun x => .v (unD x)) ∧ ys = ys.map (fun x => .v (unD x))
  | [], xs, ys, b, h => by
    obtain ⟨rfl, rfl, _⟩ := eqL_nil h
    exact ⟨rfl, rfl⟩
  | k :: ks, xs, ys, b, h => by
    obtain ⟨x, xs, y, ys, a, c, rfl, rfl, ha, hc, _⟩ := eqL_cons h
    obtain ⟨e1, e2⟩ := eqV_unD ha
    obtain ⟨f1, f2⟩ := eqL_unD hc
    exact ⟨by rw [List.map_cons, ← e1, ← f1], by rw [List.map_cons, ← e2, ← f2]⟩
theorem flatGo_run (m : Nat) : ∀ {fs : List Field} {o : Nat} {ks : List Nat} {xs ys : List D} {b : Bool} {us vs : Array Value}, flatGo P fs o ks = true → eqL ks xs ys = some b → (∀ j, j < xs.length → us[o + j]? = some (unD (xs.getD j (.v undef)))) → (∀ j, j < ys.length → vs[o + j]? = some (unD (ys.getD j (.v undef)))) →
    (Op.eqFields (m + 1) us vs fs).run P w = .ok b w
  | [], _, [], xs, ys, b, us, vs, _, h, _, _ => by
    obtain ⟨_, _, rfl⟩ := eqL_nil h
    rw [Op.eqFields]; simp
  | [], _, k :: ks, _, _, _, _, _, hg, _, _, _ => by simp [flatGo] at hg
  | f :: fs, o, [], _, _, _, _, _, hg, _, _, _ => by simp [flatGo] at hg
  | f :: fs, o, k :: ks, xs, ys, b, us, vs, hg, h, hu, hv => by
    obtain ⟨x, xs, y, ys, a, c, rfl, rfl, ha, hc, h⟩ := eqL_cons h
    simp only [flatGo, Bool.and_eq_true, bne_iff_ne, Nat.blt_eq] at hg
    obtain ⟨⟨⟨⟨h1, h2⟩, h3⟩, h4⟩, h5⟩ := hg
    have h2 := Nat.eq_of_beq_eq_true h2
    have h3 := Nat.eq_of_beq_eq_true h3
    have p1 := part_tag (w := w) h3 h4 (hu 0 (by simp))
    have p2 := part_tag (w := w) h3 h4 (hv 0 (by simp))
    rw [Nat.add_zero, ← h2] at p1 p2
    have q := eqV_run (w := w) ha h3 m
    have hr := flatGo_run m (us := us) (vs := vs) h5 hc (fun j hj => by have := hu (j + 1) (by simpa using hj); rw [show o + 1 + j = o + (j + 1) by omega, this]; rfl)
      (fun j hj => by have := hv (j + 1) (by simpa using hj); rw [show o + 1 + j = o + (j + 1) by omega, this]; rfl)
    rw [Op.eqFields, if_pos h1]
    simp only [Sem.run_bind, p1, p2, Result.andThen_ok]
    have e1 : (x :: xs).getD 0 (.v undef) = x := rfl
    have e2 : (y :: ys).getD 0 (.v undef) = y := rfl
    rw [e1, e2, q, h]
    cases a with
    | false => simp
    | true => simpa using hr
theorem rds_unD {xs : List D} {vs : List Value} (h : RDs w F xs vs) (he : xs = xs.map (fun x => .v (unD x))) : ∀ j, j < xs.length → vs[j]? = some (unD (xs.getD j (.v undef))) := fun j hj => by
  obtain ⟨v, h1, h2, _⟩ := h.get (List.getElem?_eq_getElem hj)
  have : xs[j] = .v (unD xs[j]) := by
    have := congrArg (fun l => l[j]?) he
    simp only [List.getElem?_map, List.getElem?_eq_getElem hj, Option.map_some] at this
    injection this
  rw [this] at h2
  cases h2
  rw [h1]
  simp [List.getD, List.getElem?_eq_getElem hj]
theorem run_flat {ks : List Nat} {xs ys : List D} {b : Bool} (ht : flatB P t ks = true) (h : eqL ks xs ys = some b) {u v : Value} (hu : RA w F ρ (.d (.agg xs)) u) (hv : RA w F ρ (.d (.agg ys)) v) :
    ∃ us vs, u = .agg us ∧ v = .agg vs ∧ P.eqGuardType P.depth t = false ∧ (Op.equalIn 10000 t u v).run P w = .ok b w := by
  cases hu with | d hu =>
  cases hu with | agg hu =>
  cases hv with | d hv =>
  cases hv with | agg hv =>
  unfold flatB at ht
  split at ht
  · rename_i fs hfs
    simp only [Bool.and_eq_true, Bool.not_eq_true'] at ht
    obtain ⟨⟨h1, h2⟩, h3⟩ := ht
    obtain ⟨e1, e2⟩ := eqL_unD h
    have hff : P.fieldsOf t = fs := by simp [Program.fieldsOf, hfs]
    refine ⟨_, _, rfl, rfl, h2, ?_⟩
    rw [run_equalIn_struct w 9999 t _ _ (by rw [hff]; exact hfs) h1, hff]
    exact flatGo_run 9998 h3 h (fun j hj => by rw [Nat.zero_add, List.getElem?_toArray]; exact rds_unD hu e1 j hj) (fun j hj => by rw [Nat.zero_add, List.getElem?_toArray]; exact rds_unD hv e2 j hj)
  · cases ht
theorem neF (ks : List Nat) {xs ys : List D} {b : Bool} (ht : flatB P t ks = true) (h : eqL ks xs ys = some b) : Does P (.binOp .neq t x y t') ty L n [.d (.agg xs), .d (.agg ys)] e0 (.d (.v (.bool (!b)))) :=
  does_ra2 rfl fun o w F ρ ev u v ho h1 h2 hu hv => by
    obtain ⟨us, vs, rfl, rfl, hg, hr⟩ := run_flat (w := w) ht h hu hv
    exact exec_eq ho h1 h2 (run_eqGuard_agg w .neq t x y us vs hg) (by rw [run_neq_struct, hr]; rfl)
end
end Go.Proofs.YtbjmdnemeidpjaaGreat
/- slices.SortFunc over a slice of the call's own, by a comparison that tells all apart. No program is named here. -/
namespace Go.Proofs.YtbjmdnemeidpjaaGreat
set_option linter.unusedSimpArgs false
set_option linter.unusedVariables false
open Go.RowKit Go.Sort Go.Shelf Go.Lib
/-- A comparison: two blocks at most are laid, nothing else. -/
def CmpAt {α : Type} (P : Program) (g : Nat) (enc : α → List Value) (cf : α → α → Int) : Prop := ∀ (x y : α) (W : World), Calls P g #[.agg (enc x).toArray, .agg (enc y).toArray] W fun e w' => e = .returned (.int .i64 (cf x y)) ∧ ∃ q os', w' = grow (W.drewN q) os'
def sorted {α : Type} (cf : α → α → Int) (l : List α) : List α := l.mergeSort fun x y => !(ltOf cf) y x
theorem flat_get2 {α : Type} {s : Nat} {f : α → List Value} (hs : ∀ x, (f x).length = s) : ∀ (l : List α) (j : Nat) (hj : j < l.length * s), (l.map f).flatten[j]? = (l[j / s]?).bind fun x => (f x)[j % s]?
  | [], j, hj => by simp at hj
  | x :: l, j, hj => by
    have h0 : 0 < s := by
      rcases Nat.eq_zero_or_pos s with e | e
      · subst e; simp at hj
      · exact e
    rw [List.map_cons, List.flatten_cons]
    by_cases h : j < s
    · rw [List.getElem?_append_left (by rw [hs]; exact h), Nat.div_eq_of_lt h, Nat.mod_eq_of_lt h]; rfl
    · rw [List.getElem?_append_right (by rw [hs]; omega), hs, flat_get2 hs l (j - s) (by rw [List.length_cons, Nat.add_mul] at hj; omega)]
      have e1 : j / s = (j - s) / s + 1 := by rw [Nat.div_eq_sub_div h0 (by omega)]
      have e2 : j % s = (j - s) % s := Nat.mod_eq_sub_mod (by omega)
      rw [e1, e2, List.getElem?_cons_succ]
theorem flatK_get {α : Type} [Inhabited α] {enc : α → List Value} {k : Nat} (hk : ∀ x, (enc x).length = k) (l : List α) {j : Nat} (hj : j < l.length * k) : some ((flatK enc k l.toArray)[j]!) = (l.map enc).flatten[j]? := by
  have h0 : 0 < k := by
    rcases Nat.eq_zero_or_pos k with e | e
    · subst e; simp at hj
    · exact e
  have hd : j / k < l.length := (Nat.div_lt_iff_lt_mul h0).2 hj
  rw [get_flatK enc k l.toArray j (by simpa using hj), flat_get2 hk l j hj, List.getElem?_eq_getElem hd]
  have hm := Nat.mod_lt j h0
  simp only [Option.bind_some]
  have e : l.toArray[j / k]! = l[j / k] := by simp [hd]
  rw [e, List.getElem?_eq_getElem (by rw [hk]; exact hm)]
  simp [hk, hm]
theorem rds_v {w : World} {F : Nat → Prop} : ∀ {xs vs : List Value}, RDs w F (xs.map D.v) vs → vs = xs
  | [], _, .nil => rfl
  | x :: xs, _, .cons (.v _) _ hr => by rw [rds_v hr]
theorem v_rds (w : World) (F : Nat → Prop) : ∀ {xs : List Value}, (∀ x ∈ xs, x.oneCell' = true) → RDs w F (xs.map D.v) xs
  | [], _ => .nil
  | x :: xs, h => .cons (.v x) (h x (List.mem_cons_self ..)) (v_rds w F fun y hy => h y (List.mem_cons_of_mem _ hy))
def encD {α : Type} (enc : α → List Value) (x : α) : List D := (enc x).map D.v
theorem encD_flat {α : Type} (enc : α → List Value) (l : List α) : (l.map (encD enc)).flatten = (l.map enc).flatten.map D.v := by
  induction l with
  | nil => rfl
  | cons x l ih => simp [encD, ih]
theorem grownBy_sortK {w : World} {g off n : Nat} {os : Array Obj} (F : Array Value) : w.grownBy (grow (putRow id (Sort.ahead w n) g off F) os) (some g) := by
  refine ⟨rfl, rfl, rfl, ?_, fun b hb hr => ?_⟩
  · simp [grow, putRow, mapBlock, Sort.ahead]
  · have hne : g ≠ b := fun h => hr (by rw [h])
    have hlt : b < (putRow id (Sort.ahead w n) g off F).heap.size := by simpa [putRow, mapBlock, Sort.ahead] using hb
    rw [heap_grow_old _ _ hlt]
    simp [putRow, mapBlock, Sort.ahead, Array.getElem?_modify, hne]
theorem sorted_len {α : Type} (cf : α → α → Int) (l : List α) : (sorted cf l).length = l.length := List.length_mergeSort _
theorem sorted_perm {α : Type} (cf : α → α → Int) (l : List α) : (sorted cf l).Perm l := List.mergeSort_perm _ _
/-- slices.SortFunc over a slice of the call's own. -/
theorem sort_call {P : Program} {ρr : Ren} {α : Type} [Inhabited α] (L6 : SlLaysF0.n6 P ρr) {k : Nat} (aE : ∀ w, (isAgg (ρr.t 24)).run P w = .ok true w) (zE : ∀ w, (Go.sizeOf (ρr.t 24)).run P w = .ok k w) (enc : α → List Value) (hk : ∀ x, (enc x).length = k) (h1 : ∀ x, ∀ v ∈ enc x, v.oneCell' = true) (cf : α → α → Int) (hO : SWO (ltOf cf)) (hT : ∀ x y, (ltOf cf) x y = false → (ltOf cf) y x = false → x = y) {g : Nat}
    (eg : ∀ args w, (callFunc g args).run P w = .ok (.enter g args) w) (hc : CmpAt P g enc cf) (l : List α) (hsz : l.length < 4611686018427387904) {i n : Nat} {Lh : List AObj} (hi : Lh[i]? = some (.sl k (l.map (encD enc)))) :
    CallOK P (ρr.f 6) [.own i, .fn (.func g) [] []] Lh n ⟨[i], [(i, .sl k ((sorted cf l).map (encD enc)))], []⟩ (.tup []) := by
  intro H F ρ w vals E hrs _ hA
  cases hA with | cons hA1 hA =>
  cases hA with | cons hA2 hA =>
  cases hA
  cases hA2 with | fn q1 q2 =>
  cases q1; cases q2
  cases hA1 with | @own _ A m c hρ =>
  have hHi : H i = some (.sl k (l.map (encD enc))) := (hrs i (List.mem_singleton.2 rfl)).trans hi
  obtain ⟨h, e1, ⟨vs, hOw, hRD, hlen⟩, hb⟩ := E.rep i _ hHi rfl
  rw [hρ] at e1; injection e1 with e1; subst e1
  rw [encD_flat] at hRD
  have hvs := rds_v hRD
  subst hvs
  rw [List.length_map] at hOw
  have hrows : ∀ (l : List α), ∀ r ∈ l.map (encD enc), r.length = k := fun l r hr => by
    obtain ⟨x, _, rfl⟩ := List.mem_map.1 hr
    simp [encD, hk]
  by_cases hl : l = []
  · subst hl
    have hm : m = 0 := by
      rcases hOw.2 with ⟨e, _⟩ | ⟨a, e, _⟩ | ⟨g, off, cap, e, _⟩ <;> injection e with _ e _ <;> simpa using e
    subst hm
    refine (AnyF.slices_SortFunc_none L6 A c _ w).mono ?_
    rintro e w' ⟨rfl, rfl⟩
    refine ⟨_, rfl, F, ρ, ?_⟩
    have hu := E.upd (o' := .sl k ((sorted cf ([] : List α)).map (encD enc))) hHi rfl hρ (World.grownBy.refl _ _) ⟨_, by simpa [sorted] using hOw, by simpa [sorted] using RDs.nil, hrows _⟩
    exact ⟨hu.1, Keep.refl ρ, hu.2, .tup .nil⟩
  have hpos : 0 < l.length := List.length_pos_iff.2 hl
  rcases hOw.2 with ⟨_, e⟩ | ⟨a, _, _, e⟩ | ⟨b, off, cap, e, hlo, hbs, hcap, hmax, hcell, hread⟩
  · omega
  · omega
  injection e with eA em ec
  subst eA em ec
  have hsize : ∀ (l : List α), (l.map enc).flatten.length = l.length * k := fun l => by
    induction l with
    | nil => simp
    | cons x l ih => rw [List.map_cons, List.flatten_cons, List.length_append, hk, ih, List.length_cons, Nat.add_mul]; omega
  have hH : HoldsK enc k w b off l.toArray := fun j hj => by
    rw [size_flatK, List.size_toArray] at hj
    have hjc : j < c * k := Nat.lt_of_lt_of_le hj (Nat.mul_le_mul_right _ hcap)
    refine ⟨?_, (hcell j hjc).2⟩
    rw [hread j (by rw [hsize]; exact hj)]
    have := flatK_get hk l hj
    rw [List.getElem?_eq_getElem (by rw [hsize]; exact hj)] at this
    exact this.symm
  refine (AnyQ.slices_SortFunc_total L6 k aE zE enc hk h1 cf hO g #[] b off c l.toArray w eg (fun _ _ _ _ x y => by simpa using hc x y _) hH hbs (by simpa using hsz) hT).mono ?_
  rintro e w' ⟨rfl, q, os, rfl⟩
  refine ⟨_, rfl, F, ρ, ?_⟩
  have hd : (sorted cf l).toArray.size = l.toArray.size := by simp [sorted_len]
  have hg : w.grownBy (sortWorldK enc k w b off q (sorted cf l).toArray os) (some b) := grownBy_sortK _
  have hcells : ∀ (j : Nat), j < l.length * k → (sortWorldK enc k w b off q (sorted cf l).toArray os).cell? ⟨b, off + j, none⟩ = ((sorted cf l).map enc).flatten[j]? := fun j hj => by
    have hj2 : j < (sorted cf l).length * k := by rw [sorted_len]; exact hj
    rw [← flatK_get hk _ hj2]
    unfold sortWorldK
    rw [World.cell?_of_block (w := putRowK enc k (Sort.ahead w q) b off (sorted cf l).toArray) (heap_grow_old _ _ (by simpa [putRowK, putRow, mapBlock, Sort.ahead] using hbs))]
    exact cell?_putRow id (Sort.ahead w q) b off (flatK enc k l.toArray) _ hH (by rw [size_flatK, size_flatK, hd]) j (by rw [size_flatK]; simpa using hj2)
  have hfr : ∀ (j : Nat), j < c * k → ((sortWorldK enc k w b off q (sorted cf l).toArray os).cell? ⟨b, off + j, none⟩).isSome = true ∧ (sortWorldK enc k w b off q (sorted cf l).toArray os).frozen? ⟨b, off + j, none⟩ = false := fun j hj => by
    unfold sortWorldK
    have hlt : b < (putRowK enc k (Sort.ahead w q) b off (sorted cf l).toArray).heap.size := by simpa [putRowK, putRow, mapBlock, Sort.ahead] using hbs
    rw [World.cell?_of_block (w := putRowK enc k (Sort.ahead w q) b off (sorted cf l).toArray) (heap_grow_old _ _ hlt), World.frozen?_of_block (w := putRowK enc k (Sort.ahead w q) b off (sorted cf l).toArray) (heap_grow_old _ _ hlt)]
    refine ⟨?_, by unfold putRowK; rw [frozen?_putRow]; exact (hcell j hj).2⟩
    by_cases hjl : j < l.length * k
    · unfold putRowK
      rw [cell?_putRow id (Sort.ahead w q) b off (flatK enc k l.toArray) _ hH (by rw [size_flatK, size_flatK, hd]) j (by rw [size_flatK, hd]; simpa using hjl)]
      rfl
    · unfold putRowK
      rw [cell?_putRow_other id _ _ _ _ _ (.inr (.inr (by rw [size_flatK, hd]; simp; omega)))]
      exact (hcell j hj).1
  have hOw' : Ow (sortWorldK enc k w b off q (sorted cf l).toArray os) 0 0 k (.slice (some ⟨b, off, none⟩) l.length c) ((sorted cf l).map (encD enc)).length ((sorted cf l).map enc).flatten := by
    refine ⟨by rw [hsize, List.length_map], .inr (.inr ⟨b, off, c, ?_, Nat.zero_le _, Nat.lt_of_lt_of_le hbs hg.size, ?_, hmax, hfr, fun j hj => ?_⟩)⟩
    · rw [List.length_map, sorted_len]
    · rw [List.length_map, sorted_len]; exact hcap
    · rw [hsize, sorted_len] at hj
      rw [hcells j hj, List.getElem?_eq_getElem]
  have hu := E.upd (o' := .sl k ((sorted cf l).map (encD enc))) hHi rfl hρ hg ⟨_, hOw', by
    rw [encD_flat]
    refine v_rds _ _ fun v hv => ?_
    obtain ⟨xs, hx, hv⟩ := List.mem_flatten.1 hv
    obtain ⟨x, _, rfl⟩ := List.mem_map.1 hx
    exact h1 x v hv, hrows _⟩
  exact ⟨hu.1, Keep.refl ρ, hu.2, .tup .nil⟩
end Go.Proofs.YtbjmdnemeidpjaaGreat
/- From the walk of a law to its statement: the part that is alike for all laws. No program is named here. -/
namespace Go.Proofs.YtbjmdnemeidpjaaGreat
set_option linter.unusedSimpArgs false
set_option linter.unusedVariables false
open Go.ChangeShapes Go.WideShapes Go.ChangeAt Go.RowKit

section
variable {H : Type} {enc : TypeId × Value → H} {P : Program}
theorem trodAll_below (hl : laidOutB P = true) {W W' : World} (hb : Below W.heap.size W W') : ∀ {ts : List TypeId}, (ts.all fun t => P.readableRec t && decide (t < P.types.size)) = true → ∀ {vs : List Value} {ds : List (DataW H)} {ps : List MemPlace},
    DataW.TrodAll enc P W 0 (fun _ => true) true ts vs ds ps → DataW.TrodAll enc P W' 0 (fun b => decide (b < W.heap.size)) true ts vs ds ps := by
  intro ts
  induction ts with
  | nil =>
    intro _ vs ds ps h
    obtain ⟨rfl, rfl, rfl⟩ := trodAll_nil h
    exact trodAll_mk0
  | cons t ts ih =>
    intro hts vs ds ps h
    obtain ⟨v, vs', d, ds', p, q, rfl, rfl, rfl, h0, r0⟩ := trodAll_cons h
    simp only [List.all_cons, Bool.and_eq_true, decide_eq_true_eq] at hts
    have lt0 : ∀ x ∈ p, x.block < W.heap.size := by obtain ⟨m, hm⟩ := h0; exact DataW.trod_lt m _ _ _ hm
    refine trodAll_cons_mk (Below.trod hl hts.1.1 hts.1.2 h0 hb lt0) (ih ?_ r0)
    simpa using hts.2

theorem trodAll_length {w : World} {base : Nat} {spare : Nat → Bool} {held : Bool} : ∀ {ts : List TypeId} {vs : List Value} {ds : List (DataW H)} {ps : List MemPlace}, DataW.TrodAll enc P w base spare held ts vs ds ps → ds.length = ts.length := by
  intro ts
  induction ts with
  | nil =>
    intro vs ds ps h
    obtain ⟨rfl, rfl, rfl⟩ := trodAll_nil h
    rfl
  | cons t ts ih =>
    intro vs ds ps h
    obtain ⟨v, vs', d, ds', p, q, rfl, rfl, rfl, h0, r0⟩ := trodAll_cons h
    simp [ih r0]

/-- What the walk of a law must show: from whatever arguments that read as data, true comes back, and nothing that was there has turned. -/
def LawWalk (H : Type) (enc : TypeId × Value → H) (P : Program) (F : FuncId) (fn : Func) : Prop :=
  ∀ (W : World) (base : Nat) (args : Array Value) (ds : List (DataW H)) (p : List MemPlace),
    (∀ (j : Nat) t v, fn.params[j]? = some t → args[j]? = some v → Value.okWide P W .any base t v) →
    DataW.TrodAll enc P W 0 (fun _ => true) true fn.params.toList args.toList ds p →
    (DataW.weightsEach P fn.params.toList ds).all (· ≤ reachBytes) = true →
    Calls P F args W fun e W' => e = .returned (.bool true) ∧ Below W.heap.size W W'

theorem lift_law {C : Checked} {os : Os} {F : FuncId} {fn : Func} {s : ChangeSpec} {bT : TypeId} (laid : laidOutB C.prog = true) (own : ownKnob C.prog.godebug = none) (started : os.Started) (noInit : C.prog.inits.idxOf? F = none)
    (hfn : C.prog.funcs[F]? = some fn) (hts : (fn.params.toList.all fun t => C.prog.readableRec t && decide (t < C.prog.types.size)) = true) (hbT : C.prog.underlying bT = some .bool) (hres : fn.resultTypes = #[bT])
    (hvars : s.vars = []) (hs : ∀ ds : List (DataW H), ds.length = fn.params.toList.length → s.fn H ds = { results := [.lit (.bool true)], args := ds })
    (witness : ∃ (w : World) (tape : Tape) (i : Input), w.os = os ∧ (w.forCall tape i).Shaped C.prog ∧ i.vars = [] ∧ Input.okWide C.prog (w.forCall tape i) .any w.heap.size F i ∧
      s.pre6 enc C.prog fn [] false (w.forCall tape i).memory i.args ∧ Assume.holds {} C.prog (lone (Frame.enter C.prog F i.args .normal) [] (w.forCall tape i)))
    (walk : LawWalk H enc C.prog F fn) :
    ReturnsInHanded {} C os F .any (s.pre6 enc C.prog fn [] false) (s.post enc C.prog fn false true false false) := by
  refine returnsInHanded_of_change_sized own started noInit hfn witness ?_
  intro W base args ds gs before hval hW _ hsz _
  have hW' := hW
  obtain ⟨p, q, hA, hV, rfl, hfz, hnd⟩ := hW
  rw [hvars] at hV
  obtain ⟨rfl, rfl⟩ := trodVars_none hV
  have hvt : s.plain.varTypes C.prog = [] := by simp [ChangeSpec.plain, DataSpec.varTypes, hvars]
  rw [hvt, List.append_nil, List.append_nil] at hsz
  refine (walk W base args ds p hval hA hsz).mono fun e W' ⟨he, bel⟩ => ?_
  subst he
  have hd := trodAll_length hA
  have hsp := hs ds hd
  refine ⟨_, rfl, ds, [], p ++ [], [], p, [], hW', ?_, ?_, ?_, bel.frame _, fun h => by cases h⟩
  · rw [List.append_nil, hsp, hres]
    exact trodAll_mk1 (shut_bool hbT _)
  · rw [List.append_nil, hsp]
    exact trodAll_below laid bel hts hA
  · rw [List.append_nil, hsp, hvars]
    rfl
end

/-! ### arguments -/
section
variable {H : Type} {enc : TypeId × Value → H} {P : Program} {w : World}
end
end Go.Proofs.YtbjmdnemeidpjaaGreat
/- The arguments of a law, as data; from a law's contract to its statement. No program is named here. -/
namespace Go.Proofs.YtbjmdnemeidpjaaGreat
set_option linter.unusedSimpArgs false
set_option linter.unusedVariables false
open Go.ChangeShapes Go.WideShapes Go.ChangeAt Go.RowKit
def tileB (P : Program) : List Field → Nat → Nat → Bool
  | [], o, tot => Nat.beq o tot
  | f :: r, o, tot => Nat.beq f.offset o && tileB P r (o + P.cellsOf f.type) tot
/-- Types of plain data. -/
def supB (P : Program) : Nat → TypeId → Bool
  | 0, _ => false
  | m + 1, t => match P.underlying t with
    | some .bool => true
    | some (.int _) => true
    | some .string => true
    | some (.slice e) => supB P m e && Nat.blt 0 (P.cellsOf e)
    | some (.struct fs) => tileB P fs.toList 0 (P.cellsOf t) && fs.toList.all fun f => supB P m f.type
    | some (.array n e) => supB P m e && Nat.beq (n * P.cellsOf e) (P.cellsOf t)
    | _ => false
def TyAll (p : TypeId → List D → Prop) : List TypeId → List (List D) → Prop
  | [], dss => dss = []
  | t :: ts, dss => ∃ d r, dss = d :: r ∧ p t d ∧ TyAll p ts r
/-- What cells of a type of plain data look like. -/
def TyB (p : TypeId → List D → Prop) (P : Program) (t : TypeId) (ds : List D) : Prop :=
  match P.underlying t with
    | some .bool => ∃ b, ds = [.v (.bool b)]
    | some (.int k) => ∃ z, ds = [.v (.int k z)] ∧ (Lit.int k z).wf = true
    | some .string => ∃ s, ds = [.v (.string s)] ∧ s.size ≤ reachBytes
    | some (.slice e) => ∃ rows, ds = [.sl (P.cellsOf e) rows] ∧ (∀ r ∈ rows, p e r) ∧ rows.length * P.bytesOf e ≤ reachBytes
    | some (.struct fs) => ∃ dss, ds = dss.flatten ∧ TyAll p (fs.toList.map (·.type)) dss
    | some (.array n e) => ∃ dss : List (List D), ds = dss.flatten ∧ dss.length = n ∧ ∀ d ∈ dss, p e d
    | _ => False
def Ty (P : Program) : Nat → TypeId → List D → Prop
  | 0 => fun _ _ => False
  | m + 1 => TyB (Ty P m) P
theorem Ty.of {P : Program} {m : Nat} {t : TypeId} {ds : List D} {d : TypeDesc} (hu : P.underlying t = some d) (h : P.underlying t = some d → TyB (Ty P m) P t ds) : Ty P (m + 1) t ds := h hu
section
variable {H : Type} {enc : TypeId × Value → H} {P : Program} {w : World} {base : Nat}
theorem mapM_get {α β : Type} {f : α → Option β} : ∀ {l : List α} {ys : List β}, l.mapM f = some ys → ys.length = l.length ∧ ∀ (i : Nat) (x : α), l[i]? = some x → ∃ y, ys[i]? = some y ∧ f x = some y
  | [], ys, h => by simp at h; subst h; exact ⟨rfl, fun i x h => by simp at h⟩
  | a :: l, ys, h => by
    simp only [List.mapM_cons, Option.bind_eq_bind, Option.pure_def, Option.bind_eq_some_iff, Option.some.injEq] at h
    obtain ⟨y, h1, zs, h2, rfl⟩ := h
    obtain ⟨h3, h4⟩ := mapM_get h2
    refine ⟨by simp [h3], fun i x hx => ?_⟩
    cases i with
    | zero => simp at hx; subst hx; exact ⟨y, rfl, h1⟩
    | succ i => simpa using h4 i x (by simpa using hx)
def Fall (w : World) (b : Nat) : Prop := b < w.heap.size
theorem weightsAll_mem {e : TypeId} : ∀ {ds : List (DataW H)} {d : DataW H}, d ∈ ds → ∀ x ∈ d.weights P e, x ∈ DataW.weightsAll P e ds
  | [], _, h, _, _ => by simp at h
  | a :: r, d, h, x, hx => by
    rw [DataW.weightsAll]
    rcases List.mem_cons.1 h with e | e
    · subst e; exact List.mem_append_left _ hx
    · exact List.mem_append_right _ (weightsAll_mem e x hx)
theorem weightsEach_mem : ∀ {ts : List TypeId} {ds : List (DataW H)} {i : Nat} {t : TypeId} {d : DataW H}, ts[i]? = some t → ds[i]? = some d → ∀ x ∈ d.weights P t, x ∈ DataW.weightsEach P ts ds
  | [], _, _, _, _, h, _, _, _ => by simp at h
  | _ :: _, [], _, _, _, _, h, _, _ => by simp at h
  | t0 :: ts, d0 :: ds, 0, t, d, h1, h2, x, hx => by
    simp at h1 h2; subst h1 h2
    rw [DataW.weightsEach]; exact List.mem_append_left _ hx
  | t0 :: ts, d0 :: ds, i + 1, t, d, h1, h2, x, hx => by
    rw [DataW.weightsEach]; exact List.mem_append_right _ (weightsEach_mem (by simpa using h1) (by simpa using h2) x hx)
theorem tile_out {p : TypeId → List D → Prop} {F : Nat → Prop} : ∀ {fs : List Field} {o : Nat} {cs : List Value}, tileB P fs o cs.length = true →
    (∀ f ∈ fs, ∃ ds, RDs w F ds ((cs.drop f.offset).take (P.cellsOf f.type)) ∧ p f.type ds) → ∃ dss, RDs w F dss.flatten (cs.drop o) ∧ TyAll p (fs.map (·.type)) dss
  | [], o, cs, h, _ => by
    have := Nat.eq_of_beq_eq_true h
    subst this
    exact ⟨[], by simpa using RDs.nil, rfl⟩
  | f :: r, o, cs, h, hf => by
    simp only [tileB, Bool.and_eq_true] at h
    have := Nat.eq_of_beq_eq_true h.1
    subst this
    obtain ⟨ds, h1, h2⟩ := hf f (List.mem_cons_self ..)
    obtain ⟨dss, h3, h4⟩ := tile_out h.2 fun g hg => hf g (List.mem_cons_of_mem _ hg)
    refine ⟨ds :: dss, ?_, ds, dss, rfl, h2, h4⟩
    rw [List.flatten_cons]
    have := h1.app h3
    rw [← List.drop_drop, List.take_append_drop] at this
    exact this
theorem tile_arr {p : List D → Prop} {F : Nat → Prop} {s : Nat} : ∀ {n : Nat} {cs : List Value}, cs.length = n * s → (∀ i, i < n → ∃ ds, RDs w F ds ((cs.drop (i * s)).take s) ∧ p ds) → ∃ dss : List (List D), RDs w F dss.flatten cs ∧ dss.length = n ∧ ∀ d ∈ dss, p d
  | 0, cs, hl, _ => by
    have : cs = [] := List.eq_nil_of_length_eq_zero (by simpa using hl)
    subst this
    exact ⟨[], .nil, rfl, by simp⟩
  | n + 1, cs, hl, h => by
    obtain ⟨ds, h1, h2⟩ := h 0 (by omega)
    have hl' : (cs.drop s).length = n * s := by rw [List.length_drop, hl, Nat.add_mul]; omega
    obtain ⟨dss, h3, h4, h5⟩ := tile_arr hl' fun i hi => by
      obtain ⟨ds, h1, h2⟩ := h (i + 1) (by omega)
      exact ⟨ds, by rw [List.drop_drop, show s + i * s = (i + 1) * s by rw [Nat.add_mul]; omega]; exact h1, h2⟩
    refine ⟨ds :: dss, ?_, by simp [h4], fun d hd => (List.mem_cons.1 hd).elim (fun e => e ▸ h2) (h5 d)⟩
    rw [List.flatten_cons]
    have := h1.app h3
    simp only [Nat.zero_mul, List.drop_zero] at this
    rw [List.take_append_drop] at this
    exact this
theorem cells?_get {a : Addr} {n : Nat} {cs : List Value} (h : w.cells? 0 a n = some cs) : cs.length = n ∧ ∀ j (hj : j < cs.length), w.cell? (a.add j) = some cs[j] := by
  unfold World.cells? at h
  simp only [Nat.zero_le, if_true] at h
  obtain ⟨h1, h2⟩ := mapM_get h
  simp at h1
  refine ⟨h1, fun j hj => ?_⟩
  obtain ⟨y, h3, h4⟩ := h2 j j (by rw [List.getElem?_range (by omega)])
  rw [List.getElem?_eq_getElem hj] at h3
  injection h3 with h3
  rw [h3]; exact h4
/-- **Cells that read as plain data.** -/
theorem trod_ty : ∀ (m : Nat) (t : TypeId) (fuel : Nat) (cs : List Value) (d : DataW H) (ps : List MemPlace), supB P m t = true → DataW.trod enc P w 0 (fun _ => true) true fuel t cs = some (d, ps) → (∀ x ∈ d.weights P t, x ≤ reachBytes) →
    ∃ ds, RDs w (Fall w) ds cs ∧ Ty P m t ds
  | 0, t, _, _, _, _, hs, _, _ => by simp [supB] at hs
  | m + 1, t, 0, _, _, _, _, h, _ => by simp [DataW.trod] at h
  | m + 1, t, fuel + 1, cs, d, ps, hs, h, hw => by
    rw [supB] at hs
    cases hu : P.underlying t with
    | none => rw [hu] at hs; cases hs
    | some dsc =>
      rw [hu] at hs
      cases dsc <;> try (simp at hs; done)
      case bool =>
        unfold DataW.trod at h
        simp only [hu] at h
        split at h <;> try (simp at *; done)
        rename_i b _
        exact ⟨[.v (.bool b)], .cons (.v _) rfl .nil, by show TyB _ P t _; unfold TyB; rw [hu]; exact ⟨b, rfl⟩⟩
      case int k =>
        unfold DataW.trod at h
        simp only [hu] at h
        split at h <;> try (simp at *; done)
        rename_i k' k'' n e
        injection e with e; injection e with e; subst e
        split at h
        · rename_i hc
          obtain ⟨rfl, hwf⟩ := hc
          exact ⟨[.v (.int _ n)], .cons (.v _) rfl .nil, by show TyB _ P t _; unfold TyB; rw [hu]; exact ⟨n, rfl, hwf⟩⟩
        · cases h
      case string =>
        unfold DataW.trod at h
        simp only [hu] at h
        split at h <;> try (simp at *; done)
        rename_i s _
        split at h
        · injection h with h; injection h with h1 h2; subst h1
          refine ⟨[.v (.string s)], .cons (.v _) rfl .nil, by show TyB _ P t _; unfold TyB; rw [hu]; exact ⟨s, rfl, hw s.size (by simp [DataW.weights])⟩⟩
        · cases h
      case slice e =>
        simp only [Bool.and_eq_true, Nat.blt_eq] at hs
        unfold DataW.trod at h
        simp only [hu] at h
        split at h <;> try (simp at *; done)
        · exact ⟨[.sl (P.cellsOf e) []], .cons (.sl rfl (by simp) (Nat.le_refl _) (by simp [maxLen]) .nil (fun h => absurd h (by simp))) rfl .nil, by show TyB _ P t _; unfold TyB; rw [hu]; exact ⟨[], rfl, by simp, by simp⟩⟩
        · rename_i e' a len cap he
          injection he with he; injection he with he; subst he
          split at h
          · rename_i hc
            simp only [Option.bind_eq_some_iff, Option.map_eq_some_iff, if_true] at h
            obtain ⟨elems, h1, rest, h2, h3⟩ := h
            injection h3 with h3 h4
            subst h3
            obtain ⟨g1, g2⟩ := mapM_get h1
            simp at g1
            have hel : ∀ i, i < len → ∃ r, RDs w (Fall w) r (((List.range (P.cellsOf e)).map fun j => (w.cell? (a.add (i * P.cellsOf e + j))).getD undef)) ∧ Ty P m e r ∧ r.length = P.cellsOf e ∧ ∀ j, j < P.cellsOf e → (w.cell? (a.add (i * P.cellsOf e + j))).isSome = true := by
              intro i hi
              obtain ⟨y, q1, q2⟩ := g2 i i (by rw [List.getElem?_range hi])
              simp only [Option.bind_eq_some_iff] at q2
              obtain ⟨cs', q3, q4⟩ := q2
              obtain ⟨q5, q6⟩ := cells?_get q3
              have hcell : ∀ j (hj : j < cs'.length), w.cell? (a.add (i * P.cellsOf e + j)) = some cs'[j] := fun j hj => by
                rw [← q6 j hj]
                congr 1
                obtain ⟨b, off, sp⟩ := a
                unfold Addr.add
                split <;> split <;> split <;> simp_all <;> omega
              obtain ⟨r, q7, q8⟩ := trod_ty m e fuel cs' y.1 y.2 hs.1 q4 (fun x hx => hw x (by
                simp only [DataW.weights, hu]
                exact List.mem_cons_of_mem _ (List.mem_append_left _ (weightsAll_mem (List.mem_map.2 ⟨y, List.mem_of_getElem? q1, rfl⟩) x hx))))
              have hcs : ((List.range (P.cellsOf e)).map fun j => (w.cell? (a.add (i * P.cellsOf e + j))).getD undef) = cs' := by
                apply List.ext_getElem (by simp [q5])
                intro j h1 h2
                simp [hcell j h2]
              exact ⟨r, by rw [hcs]; exact q7, q8, by rw [← q5]; exact q7.length.symm, fun j hj => by rw [hcell j (by omega)]; rfl⟩
            have hcsl : ((List.range (len * P.cellsOf e)).map fun j => (w.cell? (a.add j)).getD undef).length = len * P.cellsOf e := by simp
            obtain ⟨dss, q1, q2, q3⟩ := tile_arr (w := w) (F := Fall w) (p := fun d => Ty P m e d ∧ d.length = P.cellsOf e) hcsl fun i hi => by
              obtain ⟨r, q1, q2, q3, q4⟩ := hel i hi
              refine ⟨r, ?_, q2, q3⟩
              have hmul : i * P.cellsOf e + P.cellsOf e ≤ len * P.cellsOf e := by rw [← Nat.succ_mul]; exact Nat.mul_le_mul_right _ hi
              have : (((List.range (len * P.cellsOf e)).map fun j => (w.cell? (a.add j)).getD undef).drop (i * P.cellsOf e)).take (P.cellsOf e) = ((List.range (P.cellsOf e)).map fun j => (w.cell? (a.add (i * P.cellsOf e + j))).getD undef) := by
                apply List.ext_getElem (by simp; omega)
                intro j h1 h2
                simp
              rw [this]; exact q1
            have hall : ∀ j, j < len * P.cellsOf e → (w.cell? (a.add j)).isSome = true := fun j hj => by
              have hd := Nat.div_add_mod j (P.cellsOf e)
              have hi : j / P.cellsOf e < len := (Nat.div_lt_iff_lt_mul hs.2).2 hj
              obtain ⟨_, _, _, _, q4⟩ := hel _ hi
              have := q4 (j % P.cellsOf e) (Nat.mod_lt _ hs.2)
              rwa [show j / P.cellsOf e * P.cellsOf e + j % P.cellsOf e = j by rw [Nat.mul_comm]; omega] at this
            have hbound : dss.length * P.bytesOf e ≤ reachBytes := by
              rw [q2]
              have := hw ((elems.map (·.1)).length * P.bytesOf e + (rest.map (·.1)).length * P.bytesOf e) (by simp [DataW.weights, hu, Nat.add_mul])
              simp only [List.length_map, g1] at this
              omega
            refine ⟨[.sl (P.cellsOf e) dss], .cons (.sl q2 (fun r hr => (q3 r hr).2) hc.2.1 hc.2.2 q1 fun hp => ?_) rfl .nil, by show TyB _ P t _; unfold TyB; rw [hu]; refine ⟨dss, rfl, fun r hr => (q3 r hr).1, ?_⟩; exact hbound⟩
            · obtain ⟨b, off, sp⟩ := a
              have h0 := hall 0 (Nat.mul_pos hp hs.2)
              obtain ⟨u, hu0⟩ := Option.isSome_iff_exists.1 h0
              have hsp : sp = none := by simpa [Addr.add] using World.cell?_spot hu0
              subst hsp
              refine ⟨b, off, rfl, ?_, fun j hj => ?_⟩
              · rw [Addr.add_lit] at hu0
                exact World.block_lt_of_cell? w _ hu0
              · rw [hcsl] at hj
                have := hall j hj
                rw [Addr.add_lit] at this
                obtain ⟨u, hu⟩ := Option.isSome_iff_exists.1 this
                simp [Addr.add_lit, hu]
          · cases h
      case struct fs =>
        simp only [Bool.and_eq_true, List.all_eq_true] at hs
        unfold DataW.trod at h
        simp only [hu] at h
        split at h
        · rename_i hlen
          simp only [Option.map_eq_some_iff] at h
          obtain ⟨xs, h1, h2⟩ := h
          injection h2 with h2 h3
          subst h2
          obtain ⟨g1, g2⟩ := mapM_get h1
          obtain ⟨dss, q1, q2⟩ := tile_out (w := w) (F := Fall w) (P := P) (p := Ty P m) (cs := cs) (by rw [hlen]; exact hs.1) fun f hf => by
            obtain ⟨i, hi, rfl⟩ := List.getElem_of_mem hf
            obtain ⟨y, q1, q2⟩ := g2 i _ (List.getElem?_eq_getElem hi)
            exact trod_ty m _ fuel _ y.1 y.2 (hs.2 _ hf) q2 fun x hx => hw x (by
              simp only [DataW.weights, hu]
              exact weightsEach_mem (i := i) (t := fs.toList[i].type) (by rw [List.getElem?_map, List.getElem?_eq_getElem hi]; rfl) (by rw [List.getElem?_map, q1]; rfl) x hx)
          exact ⟨dss.flatten, by simpa using q1, by show TyB _ P t _; unfold TyB; rw [hu]; exact ⟨dss, rfl, q2⟩⟩
        · cases h
      case array n e =>
        simp only [Bool.and_eq_true] at hs
        unfold DataW.trod at h
        simp only [hu] at h
        split at h
        · rename_i hlen
          simp only [Option.map_eq_some_iff] at h
          obtain ⟨xs, h1, h2⟩ := h
          injection h2 with h2 h3
          subst h2
          obtain ⟨g1, g2⟩ := mapM_get h1
          obtain ⟨dss, q1, q2, q3⟩ := tile_arr (w := w) (F := Fall w) (p := Ty P m e) (n := n) (s := P.cellsOf e) (cs := cs) (by rw [hlen]; exact (Nat.eq_of_beq_eq_true hs.2).symm) fun i hi => by
            obtain ⟨y, q1, q2⟩ := g2 i i (by rw [List.getElem?_range hi])
            exact trod_ty m _ fuel _ y.1 y.2 hs.1 q2 fun x hx => hw x (by
              simp only [DataW.weights, hu]
              exact weightsAll_mem (List.mem_map.2 ⟨y, List.mem_of_getElem? q1, rfl⟩) x hx)
          exact ⟨dss.flatten, q1, by show TyB _ P t _; unfold TyB; rw [hu]; exact ⟨dss, rfl, q2, q3⟩⟩
        · cases h
/-- What an argument of a type looks like. -/
def TyV (P : Program) (t : TypeId) (x : D) : Prop :=
  match P.underlying t with
  | some (.struct _) => ∃ ds, x = .agg ds ∧ Ty P 9 t ds
  | some (.array _ _) => ∃ ds, x = .agg ds ∧ Ty P 9 t ds
  | _ => Ty P 9 t [x]
def ArgsTy (P : Program) : List TypeId → List AV → Prop
  | [], aas => aas = []
  | t :: ts, aas => ∃ x r, aas = .d x :: r ∧ TyV P t x ∧ ArgsTy P ts r
theorem arg_tyV {t : TypeId} {v : Value} {d : DataW H} {ps : List MemPlace} (hs : supB P 9 t = true) (hok : Value.okWide P w .any base t v) (h : DataW.Trod enc P w 0 (fun _ => true) true t v d ps) (hw : ∀ x ∈ d.weights P t, x ≤ reachBytes) :
    ∃ x, TyV P t x ∧ RD w (Fall w) x v := by
  obtain ⟨fuel, hf⟩ := h
  obtain ⟨ds, h1, h2⟩ := trod_ty 9 t fuel _ d ps hs hf hw
  have hs0 := hs
  rw [supB] at hs
  have one : v.cells.toList = [v] → ∃ x, ds = [x] ∧ RD w (Fall w) x v := fun e => by
    rw [e] at h1
    cases h1 with | cons h1 _ hr => cases hr; exact ⟨_, rfl, h1⟩
  cases hu : P.underlying t with
  | none => rw [hu] at hs; cases hs
  | some dsc =>
    rw [hu] at hs
    have fin : v.cells.toList = [v] → (∀ x, Ty P 9 t [x] → TyV P t x) → ∃ x, TyV P t x ∧ RD w (Fall w) x v := fun e hx => by
      obtain ⟨x, rfl, hr⟩ := one e
      exact ⟨x, hx x h2, hr⟩
    have agg : (∃ cs, v = .agg cs) → (∀ ds, Ty P 9 t ds → TyV P t (.agg ds)) → ∃ x, TyV P t x ∧ RD w (Fall w) x v := fun ⟨cs, e⟩ hx => by
      subst e
      exact ⟨.agg ds, hx ds h2, by simpa [Value.cells] using RD.agg h1⟩
    cases dsc <;> try (simp at hs; done)
    · obtain ⟨b, rfl⟩ := okWide_bool hu hok; exact fin rfl fun x hx => by unfold TyV; rw [hu]; exact hx
    · obtain ⟨b, rfl⟩ := okWide_int hu hok; exact fin rfl fun x hx => by unfold TyV; rw [hu]; exact hx
    · obtain ⟨b, rfl⟩ := okWide_string hu hok; exact fin rfl fun x hx => by unfold TyV; rw [hu]; exact hx
    · obtain ⟨a, l, c, rfl⟩ := okWide_slice hu hok; exact fin rfl fun x hx => by unfold TyV; rw [hu]; exact hx
    · unfold Value.okWide at hok
      rw [hu] at hok
      obtain ⟨cs, e, _⟩ := hok
      exact agg ⟨cs, e⟩ fun ds hd => by unfold TyV; rw [hu]; exact ⟨ds, rfl, hd⟩
    · unfold Value.okWide at hok
      rw [hu] at hok
      obtain ⟨cs, e, _⟩ := hok
      exact agg ⟨cs, e⟩ fun ds hd => by unfold TyV; rw [hu]; exact ⟨ds, rfl, hd⟩
theorem args_ty : ∀ {ts : List TypeId} {vs : List Value} {ds : List (DataW H)} {ps : List MemPlace}, (ts.all fun t => supB P 9 t) = true → (∀ (j : Nat) (t : TypeId) (v : Value), ts[j]? = some t → vs[j]? = some v → Value.okWide P w .any base t v) → DataW.TrodAll enc P w 0 (fun _ => true) true ts vs ds ps → (∀ x ∈ DataW.weightsEach P ts ds, x ≤ reachBytes) →
    ∃ aas, ArgsTy P ts aas ∧ RAs w (Fall w) (fun _ => none) aas vs
  | [], vs, ds, ps, _, _, h, _ => by
    obtain ⟨rfl, rfl, rfl⟩ := trodAll_nil h
    exact ⟨[], rfl, .nil⟩
  | t :: ts, vs, ds, ps, hs, hok, h, hw => by
    obtain ⟨v, vs', d, ds', p, q, rfl, rfl, rfl, h0, r0⟩ := trodAll_cons h
    simp only [List.all_cons, Bool.and_eq_true] at hs
    obtain ⟨x, h1, h2⟩ := arg_tyV hs.1 (hok 0 t v rfl rfl) h0 fun y hy => hw y (by rw [DataW.weightsEach]; exact List.mem_append_left _ hy)
    obtain ⟨aas, h3, h4⟩ := args_ty hs.2 (fun j t v h1 h2 => hok (j + 1) t v (by simpa using h1) (by simpa using h2)) r0 fun y hy => hw y (by rw [DataW.weightsEach]; exact List.mem_append_right _ hy)
    exact ⟨.d x :: aas, ⟨x, aas, rfl, h1, h3⟩, .cons (.d h2) h4⟩
/-- **From a law's contract to what its statement asks of the walk.** -/
theorem lawWalk_of_sat {F : FuncId} {fn : Func} (hs : (fn.params.toList.all fun t => supB P 9 t) = true) (h : ∀ aas, ArgsTy P fn.params.toList aas → Sat P F aas [] (.d (.v (.bool true))) []) : LawWalk H enc P F fn := by
  intro W base args ds p hok hT hw
  obtain ⟨aas, h1, h2⟩ := args_ty hs (fun j t v h1 h2 => hok j t v (by simpa using h1) (by simpa using h2)) hT fun x hx => by
    have := List.all_eq_true.1 hw x hx
    simpa using this
  have En : Env (Fall W) (fun _ => none) (hp []) W := ⟨fun b h => h, fun i _ => rfl, fun i o h => by simp [hp] at h, fun i j o o' _ _ _ h => by simp [hp] at h⟩
  have := h aas h1 (Fall W) (fun _ => none) W args.toList En h2
  have e : args.toList.toArray = args := by simp
  rw [e] at this
  refine this.mono ?_
  rintro en W' ⟨v, rfl, F', ρ', S, _, _, R⟩
  have := R.v_out
  subst this
  exact ⟨rfl, S.os, S.tape, S.output, S.size, fun b hb => S.unch b hb fun ⟨i, o, hh, h, _⟩ => by simp [hp] at h⟩
end
end Go.Proofs.YtbjmdnemeidpjaaGreat
/- What arguments of a law are, by their types: numbers, structs of numbers, slices of such. No program is named here. -/
namespace Go.Proofs.YtbjmdnemeidpjaaGreat
set_option linter.unusedSimpArgs false
set_option linter.unusedVariables false
open Go.RowKit
section
variable {P : Program} {t : TypeId} {x : D} {m : Nat} {ds : List D}
def in64 (z : Int) : Prop := -9223372036854775808 ≤ z ∧ z ≤ 9223372036854775807
theorem wf_i64 {z : Int} (h : (Lit.int .i64 z).wf = true) : in64 z := by
  simp only [Lit.wf, Bool.and_eq_true, decide_eq_true_eq] at h
  exact h
theorem tyv_one (h : TyV P t x) {d : TypeDesc} (hu : P.underlying t = some d) (h1 : (match d with | .struct _ => false | .array _ _ => false | _ => true) = true) : Ty P 9 t [x] := by
  unfold TyV at h
  rw [hu] at h
  cases d <;> first | exact h | cases h1
theorem ty_int {k : IntKind} (h : TyV P t x) (hu : P.underlying t = some (.int k)) : ∃ z, x = .v (.int k z) ∧ (Lit.int k z).wf = true := by
  have h := tyv_one h hu rfl
  have h : TyB (Ty P 8) P t [x] := h
  unfold TyB at h
  rw [hu] at h
  obtain ⟨z, h1, h2⟩ := h
  injection h1 with h1
  exact ⟨z, h1, h2⟩
theorem ty_i64 (h : TyV P t x) (hu : P.underlying t = some (.int .i64)) : ∃ z, x = .v (.int .i64 z) ∧ in64 z := by
  obtain ⟨z, h1, h2⟩ := ty_int h hu
  exact ⟨z, h1, wf_i64 h2⟩
theorem ty_slice {e : TypeId} (h : TyV P t x) (hu : P.underlying t = some (.slice e)) : ∃ rows, x = .sl (P.cellsOf e) rows ∧ (∀ r ∈ rows, Ty P 8 e r) ∧ rows.length * P.bytesOf e ≤ reachBytes := by
  have h := tyv_one h hu rfl
  have h : TyB (Ty P 8) P t [x] := h
  unfold TyB at h
  rw [hu] at h
  obtain ⟨rows, h1, h2⟩ := h
  injection h1 with h1
  exact ⟨rows, h1, h2⟩
theorem rows_map {α : Type} {f : α → List D} {p : α → Prop} : ∀ {rows : List (List D)}, (∀ r ∈ rows, ∃ a, r = f a ∧ p a) → ∃ l : List α, rows = l.map f ∧ ∀ a ∈ l, p a
  | [], _ => ⟨[], rfl, fun a h => by simp at h⟩
  | r :: rest, h => by
    obtain ⟨a, rfl, ha⟩ := h r (List.mem_cons_self ..)
    obtain ⟨l, rfl, hl⟩ := rows_map (rows := rest) fun r hr => h r (List.mem_cons_of_mem _ hr)
    exact ⟨a :: l, rfl, fun b hb => (List.mem_cons.1 hb).elim (fun e => e ▸ ha) fun q => hl b q⟩
end
end Go.Proofs.YtbjmdnemeidpjaaGreat
/- What the conditions need of the program's tables. -/
namespace Go.Proofs.YtbjmdnemeidpjaaGreat
set_option linter.unusedSimpArgs false
set_option linter.unusedVariables false
theorem tf {p : Prop} : true = false → p := fun h => Bool.noConfusion h
theorem ft {p : Prop} : false = true → p := fun h => Bool.noConfusion h
theorem hm0 : Tryz.prog.follows .mixedOrders = true := by kernel_rfl
def E0 (g : Nat) : Bool := Nat.blt g 108 && !(Nat.beq g 0) && !(Nat.beq g 1) && !(Nat.beq g 45) && !(Nat.beq g 58)
theorem E0_all : ((List.range 108).all fun g => !(E0 g) || entersB Tryz.prog g) = true := by kernel_rfl
theorem hE0 : ∀ g, E0 g = true → entersB Tryz.prog g = true := fun g h => by
  have hlt : g < 108 := by simp [E0, Nat.blt_eq] at h; omega
  have := List.all_eq_true.1 E0_all g (List.mem_range.2 hlt)
  simpa [h] using this
end Go.Proofs.YtbjmdnemeidpjaaGreat
/- Short words for abstract values; small laws of lists. -/
namespace Go.Proofs.YtbjmdnemeidpjaaGreat
set_option linter.unusedSimpArgs false
set_option linter.unusedVariables false
open Go.RowKit
set_option maxRecDepth 100000
abbrev iD (z : Int) : D := .v (.int .i64 z)
abbrev iA (z : Int) : AV := .d (.v (.int .i64 z))
abbrev bA (b : Bool) : AV := .d (.v (.bool b))
abbrev gR (g : Int × Int) : List D := [iD g.1, iD g.2]
abbrev gA (g : Int × Int) : AV := .d (.agg (gR g))
theorem map_get {α β : Type} {f : α → β} {l : List α} {k : Nat} {x : α} (h : l[k]? = some x) : (l.map f)[k]? = some (f x) := by rw [List.getElem?_map, h]; rfl
theorem map_take_succ {α β : Type} {f : α → β} {l : List α} {k : Nat} {x : α} (hx : l[k]? = some x) : (l.take (k + 1)).map f = (l.take k).map f ++ [f x] := by
  rw [List.take_add_one, hx, List.map_append]; rfl
theorem all_take_succ {α : Type} {p : α → Bool} {l : List α} {k : Nat} {x : α} (hx : l[k]? = some x) : (l.take (k + 1)).all p = ((l.take k).all p && p x) := by
  rw [List.take_add_one, hx, List.all_append]; simp
theorem frz_b {P : Program} {g : FuncId} {L : List AObj} {n i s : Nat} {rows : List (List D)} {x : D} {r : AV} (h : Sat P g [.d x, .d (.sl s rows)] [] r []) (hi : L[i]? = some (.sl s rows)) (hr : AV.lt 0 r = true) : CallOK P g [.d x, .own i] L n ⟨[i], [(i, .dead)], []⟩ r :=
  h.frz (ids := [i]) ⟨rfl, [], rfl, hi, rfl⟩ hr
theorem frz_a {P : Program} {g : FuncId} {L : List AObj} {n i s : Nat} {rows : List (List D)} {r : AV} (h : Sat P g [.d (.sl s rows)] [] r []) (hi : L[i]? = some (.sl s rows)) (hr : AV.lt 0 r = true) : CallOK P g [.own i] L n ⟨[i], [(i, .dead)], []⟩ r :=
  h.frz (ids := [i]) ⟨[], rfl, hi, rfl⟩ hr
end Go.Proofs.YtbjmdnemeidpjaaGreat
/- Gaps: Right, Has. -/
namespace Go.Proofs.YtbjmdnemeidpjaaGreat
open Go.RowKit
set_option linter.unusedVariables false
set_option linter.unusedSimpArgs false
end Go.Proofs.YtbjmdnemeidpjaaGreat
/- gap.Meet; sweep.Agree. -/
namespace Go.Proofs.YtbjmdnemeidpjaaGreat
open Go.RowKit
set_option linter.unusedVariables false
set_option linter.unusedSimpArgs false
def gcell (g : Int × Int) : List Value := [.int .i64 g.1, .int .i64 g.2]
def gcells (gs : List (Int × Int)) : List Value := (gs.map gcell).flatten
theorem gcells_len : ∀ gs : List (Int × Int), (gcells gs).length = gs.length * 2
  | [] => rfl
  | g :: r => by
    have := gcells_len r
    unfold gcells at this ⊢
    rw [List.map_cons, List.flatten_cons, List.length_append, this, List.length_cons]
    simp [gcell]; omega
theorem gcells_get : ∀ (gs : List (Int × Int)) (k j : Nat) (g : Int × Int), gs[k]? = some g → j < 2 → (gcells gs)[k * 2 + j]? = (gcell g)[j]?
  | [], k, j, g, h, _ => by simp at h
  | x :: r, 0, j, g, h, hj => by
    simp at h
    subst h
    unfold gcells
    rw [List.map_cons, List.flatten_cons, Nat.zero_mul, Nat.zero_add, List.getElem?_append_left (by simpa [gcell] using hj)]
  | x :: r, k + 1, j, g, h, hj => by
    have ih := gcells_get r k j g (by simpa using h) hj
    unfold gcells at ih ⊢
    rw [List.map_cons, List.flatten_cons, List.getElem?_append_right (by simp [gcell]; omega)]
    rw [show (k + 1) * 2 + j - (gcell x).length = k * 2 + j by simp [gcell]; omega]
    exact ih
/-- One gap of a slice. -/
theorem Rd.gap {w : World} {B n : Nat} {A : Option Addr} {gs : List (Int × Int)} (h : Rd w B 2 A n (gcells gs)) {k : Nat} (hk : k < n) :
    ∃ b off g, A = some ⟨b, off, none⟩ ∧ b < B ∧ gs[k]? = some g ∧ w.cell? ⟨b, off + k * 2, none⟩ = some (.int .i64 g.1) ∧ w.cell? ⟨b, off + k * 2 + 1, none⟩ = some (.int .i64 g.2) := by
  obtain ⟨b, off, e, hb, hc⟩ := h.at_ hk
  have hl := h.1
  rw [gcells_len] at hl
  have hlt : k < gs.length := by omega
  refine ⟨b, off, gs[k], e, hb, List.getElem?_eq_getElem hlt, ?_, ?_⟩
  · have h0 := gcells_get gs k 0 gs[k] (List.getElem?_eq_getElem hlt) (by omega)
    obtain ⟨h1, h2⟩ := List.getElem?_eq_some_iff.1 (h0.trans (show (gcell gs[k])[0]? = some _ from rfl))
    have := hc (k * 2 + 0) h1
    rw [h2] at this
    exact this
  · have h0 := gcells_get gs k 1 gs[k] (List.getElem?_eq_getElem hlt) (by omega)
    obtain ⟨h1, h2⟩ := List.getElem?_eq_some_iff.1 (h0.trans (show (gcell gs[k])[1]? = some _ from rfl))
    have := hc (k * 2 + 1) h1
    rw [h2] at this
    exact this
end Go.Proofs.YtbjmdnemeidpjaaGreat
/- The document's gaps: Right. -/
namespace Go.Proofs.YtbjmdnemeidpjaaGreat
set_option linter.unusedSimpArgs false
set_option linter.unusedVariables false
open Go.RowKit
set_option maxRecDepth 100000
end Go.Proofs.YtbjmdnemeidpjaaGreat
/- The document's sweep: Votes, Best, Agree. -/
namespace Go.Proofs.YtbjmdnemeidpjaaGreat
set_option linter.unusedSimpArgs false
set_option linter.unusedVariables false
open Go.RowKit
set_option maxRecDepth 100000
end Go.Proofs.YtbjmdnemeidpjaaGreat
/- The document's votes: plain laws. -/
namespace Go.Proofs.YtbjmdnemeidpjaaGreat
set_option linter.unusedSimpArgs false
set_option linter.unusedVariables false
open Go.RowKit
end Go.Proofs.YtbjmdnemeidpjaaGreat
/- The shelf: how keys are compared. -/
namespace Go.Proofs.YtbjmdnemeidpjaaGreat
open Go.RowKit Go.Sort
set_option linter.unusedVariables false
set_option linter.unusedSimpArgs false
abbrev KeyZ := Int × ByteArray
def encK (k : KeyZ) : List Value := [.int .i64 k.1, .string k.2]
def cmpS (a b : ByteArray) : Int := if a.toList < b.toList then -1 else if b.toList < a.toList then 1 else 0
def cmpK (x y : KeyZ) : Int := if Lib.compareInt x.1 y.1 ≠ 0 then Lib.compareInt x.1 y.1 else cmpS x.2 y.2
theorem cmpInt_any (x y : Int) (w : World) : Calls Tryz.prog 49 #[.int .i64 x, .int .i64 y] w fun e w' => e = .returned (.int .i64 (Lib.compareInt x y)) ∧ w' = w := AnyG.cmp_Compare_int Tryz.cmpFn x y w
theorem isNaN_any (a : ByteArray) (w : World) : Calls Tryz.prog 73 #[.string a] w fun e w' => e = .returned (.bool false) ∧ w' = w := by
  go_enter Tryz.func73, Tryz.ntmps73
  go_wp2
  go_ret
  exact ⟨by simp, rfl⟩
theorem str_irrefl (a : ByteArray) : ¬ a.toList < a.toList := List.lt_irrefl _
set_option maxRecDepth 100000 in
theorem cmpStr_any (a b : ByteArray) (w : World) : Calls Tryz.prog 50 #[.string a, .string b] w fun e w' => e = .returned (.int .i64 (cmpS a b)) ∧ w' = w := by
  have N1 := hide (fun W => isNaN_any a W)
  have N2 := hide (fun W => isNaN_any b W)
  have e1 := bytesLess_eq a.toList b.toList
  by_cases h1 : a.toList < b.toList
  · have e : cmpS a b = -1 := by unfold cmpS; rw [if_pos h1]
    rw [decide_eq_true h1] at e1
    rw [e]
    clear e h1
    go_enter Tryz.func50, Tryz.ntmps50
    go_wp2_with (go_at_call 73; first | (refine (N1.out _).mono ?_; rintro e w' ⟨rfl, rfl⟩) | (refine (N2.out _).mono ?_; rintro e w' ⟨rfl, rfl⟩))
    go_ret
    exact ⟨rfl, rfl⟩
  rw [decide_eq_false h1] at e1
  by_cases h2 : b.toList < a.toList
  · have e : cmpS a b = 1 := by unfold cmpS; rw [if_neg h1, if_pos h2]
    have e2 : (a.toList == b.toList) = false := by rw [beq_eq_false_iff_ne]; intro q; rw [q] at h2; exact str_irrefl _ h2
    rw [e]
    clear e h1 h2
    go_enter Tryz.func50, Tryz.ntmps50
    go_wp2_with (go_at_call 73; first | (refine (N1.out _).mono ?_; rintro e w' ⟨rfl, rfl⟩) | (refine (N2.out _).mono ?_; rintro e w' ⟨rfl, rfl⟩))
    go_ret
    exact ⟨rfl, rfl⟩
  · have e : cmpS a b = 0 := by unfold cmpS; rw [if_neg h1, if_neg h2]
    have e2 : (a.toList == b.toList) = true := by rw [beq_iff_eq]; exact List.le_antisymm (List.not_lt.1 h2) (List.not_lt.1 h1)
    rw [e]
    clear e h1 h2
    go_enter Tryz.func50, Tryz.ntmps50
    go_wp2_with (go_at_call 73; first | (refine (N1.out _).mono ?_; rintro e w' ⟨rfl, rfl⟩) | (refine (N2.out _).mono ?_; rintro e w' ⟨rfl, rfl⟩))
    go_ret
    exact ⟨rfl, rfl⟩
set_option maxRecDepth 100000 in
theorem compareKey_at : CmpAt Tryz.prog 33 encK cmpK := by
  rintro ⟨a, p⟩ ⟨b, q⟩ W
  obtain ⟨z, hz⟩ : ∃ z, cmpK (a, p) (b, q) = z := ⟨_, rfl⟩
  rw [hz]
  have HZ := hide hz
  have hcon := fun W' => cmpInt_any a b W'
  have hstr := fun W' => cmpStr_any p q W'
  obtain ⟨r, hr⟩ : ∃ r, Lib.compareInt a b = r := ⟨_, rfl⟩
  obtain ⟨t, ht⟩ : ∃ t, cmpS p q = t := ⟨_, rfl⟩
  rw [hr] at hcon
  rw [ht] at hstr
  have HR := hide hr
  have HT := hide ht
  have HC := hide hcon
  have HS := hide hstr
  clear hz hr hcon ht hstr
  simp only [encK]
  by_cases h0 : r = 0
  · have hne : (r != 0) = false := by simp [h0]
    have H0 := hide h0
    clear h0
    go_enter Tryz.func33, Tryz.ntmps33
    go_wp2_with (first | (go_at_call 49; refine (HC.out _).mono ?_; rintro e w' ⟨rfl, rfl⟩) | (go_at_call 50; refine (HS.out _).mono ?_; rintro e w' ⟨rfl, rfl⟩))
    go_ret
    refine ⟨?_, 0, _, by rw [alloc_eq_grow, alloc_eq_grow, grow_grow]; rfl⟩
    have e := HZ.out
    unfold cmpK at e
    rw [← e]
    simp [HR.out, HT.out, H0.out]
  · have hne : (r != 0) = true := by simp [h0]
    have H0 := hide h0
    clear h0
    go_enter Tryz.func33, Tryz.ntmps33
    go_wp2_with (go_at_call 49; refine (HC.out _).mono ?_; rintro e w' ⟨rfl, rfl⟩)
    go_ret
    refine ⟨?_, 0, _, by rw [alloc_eq_grow, alloc_eq_grow, grow_grow]; rfl⟩
    have e := HZ.out
    unfold cmpK at e
    rw [← e]
    simp [HR.out, H0.out]
/-- One key is ahead of another. -/
def ltK (x y : KeyZ) : Prop := x.1 < y.1 ∨ (x.1 = y.1 ∧ x.2.toList < y.2.toList)
theorem cmpS_neg (a b : ByteArray) : cmpS a b < 0 ↔ a.toList < b.toList := by
  unfold cmpS
  by_cases h1 : a.toList < b.toList
  · simp [h1]
  · by_cases h2 : b.toList < a.toList <;> simp [h1, h2]
theorem ltOf_K (x y : KeyZ) : ltOf cmpK x y = true ↔ ltK x y := by
  unfold ltOf cmpK ltK Lib.compareInt
  rw [decide_eq_true_eq]
  by_cases h1 : x.1 < y.1
  · simp [h1]
  · by_cases h2 : x.1 > y.1
    · simp [h1, h2]; omega
    · have h3 : x.1 = y.1 := by omega
      simp only [if_neg h1, if_neg h2]
      simp [h1, h3, cmpS_neg]
theorem ltOf_KF (x y : KeyZ) : ltOf cmpK x y = false ↔ ¬ ltK x y := by rw [← ltOf_K, Bool.not_eq_true]
theorem ltK_trans {x y z : KeyZ} (h : ltK x y) (h' : ltK y z) : ltK x z := by
  unfold ltK at *
  rcases h with h | ⟨h1, h2⟩ <;> rcases h' with g | ⟨g1, g2⟩
  · left; omega
  · left; omega
  · left; omega
  · right; exact ⟨by omega, List.lt_trans h2 g2⟩
theorem ltK_irrefl (x : KeyZ) : ¬ ltK x x := by
  unfold ltK
  rintro (h | ⟨_, h⟩)
  · omega
  · exact str_irrefl _ h
theorem bytes_toList_inj {a b : ByteArray} (h : a.toList = b.toList) : a = b := by
  obtain ⟨x⟩ := a
  obtain ⟨y⟩ := b
  rw [ByteArray.toList_eq, ByteArray.toList_eq] at h
  exact congrArg ByteArray.mk (Array.toList_inj.1 h)
theorem ltK_total (x y : KeyZ) : ltK x y ∨ x = y ∨ ltK y x := by
  unfold ltK
  obtain ⟨a, p⟩ := x
  obtain ⟨b, q⟩ := y
  by_cases h1 : a < b
  · exact .inl (.inl h1)
  · by_cases h2 : b < a
    · exact .inr (.inr (.inl h2))
    · have e : a = b := by omega
      subst e
      by_cases h3 : p.toList < q.toList
      · exact .inl (.inr ⟨rfl, h3⟩)
      · by_cases h4 : q.toList < p.toList
        · exact .inr (.inr (.inr ⟨rfl, h4⟩))
        · have : p.toList = q.toList := List.le_antisymm (List.not_lt.1 h4) (List.not_lt.1 h3)
          exact .inr (.inl (by rw [bytes_toList_inj this]))
theorem swoK : SWO (ltOf cmpK) := by
  refine ⟨fun x => ?_, fun x y z => ?_, fun x y z => ?_⟩
  · rw [ltOf_KF]; exact ltK_irrefl x
  · rw [ltOf_K, ltOf_K, ltOf_K]; exact ltK_trans
  · rw [ltOf_KF, ltOf_KF, ltOf_KF]
    intro h g q
    rcases ltK_total x y with k | k | k
    · exact h k
    · subst k; exact g q
    · exact g (ltK_trans k q)
theorem totK (x y : KeyZ) (h : ltOf cmpK x y = false) (g : ltOf cmpK y x = false) : x = y := by
  rw [ltOf_KF] at h g
  rcases ltK_total x y with k | k | k
  · exact absurd k h
  · exact k
  · exact absurd k g
abbrev kyQ (k : KeyZ) : List D := [iD k.1, .v (.string k.2)]
theorem sortK_call (l : List KeyZ) (hsz : l.length < 4611686018427387904) {i n : Nat} {Lh : List AObj} (hi : Lh[i]? = some (.sl 2 (l.map kyQ))) :
    CallOK Tryz.prog 47 [.own i, .fn (.func 33) [] []] Lh n ⟨[i], [(i, .sl 2 ((sorted cmpK l).map kyQ))], []⟩ (.tup []) :=
  sort_call Tryz.sortFn Tryz.isAgg24 Tryz.sizeOf24 encK (fun _ => rfl) (fun x v hv => by simp [encK] at hv; rcases hv with rfl | rfl <;> rfl) cmpK swoK totK (enters_of Tryz.func33 (by kernel_rfl) rfl) compareKey_at l hsz hi
end Go.Proofs.YtbjmdnemeidpjaaGreat
/- Numbers as values: two small words. -/
namespace Go.Proofs.YtbjmdnemeidpjaaGreat
set_option linter.unusedSimpArgs false
set_option linter.unusedVariables false
open Go.RowKit
def i64v (x : Int) : Value := .int .i64 x
theorem u64_wrap (n : Int) : IntKind.u64.wrap n = n % 18446744073709551616 := by simp [IntKind.wrap, IntKind.bits, IntKind.signed]
theorem Rd.get {w : World} {B n : Nat} {A : Option Addr} {α : Type} {f : α → Value} {l : List α} (h : Rd w B 1 A n (l.map f)) {k : Nat} (hk : k < n) :
    ∃ b off, A = some ⟨b, off, none⟩ ∧ b < B ∧ ∃ x, l[k]? = some x ∧ w.cell? ⟨b, off + k, none⟩ = some (f x) := by
  obtain ⟨b, off, e, hb, hc⟩ := h.at_ hk
  have hl := h.1
  simp only [List.length_map, Nat.mul_one] at hl
  refine ⟨b, off, e, hb, l[k], List.getElem?_eq_getElem (by omega), ?_⟩
  rw [hc k (by simp; omega)]
  simp
theorem Rd.len {w : World} {B n : Nat} {A : Option Addr} {α : Type} {f : α → Value} {l : List α} (h : Rd w B 1 A n (l.map f)) : l.length = n := by
  have := h.1; simpa using this
end Go.Proofs.YtbjmdnemeidpjaaGreat
/- Histograms: Bucket, Of. -/
namespace Go.Proofs.YtbjmdnemeidpjaaGreat
open Go.RowKit
set_option linter.unusedVariables false
set_option linter.unusedSimpArgs false
theorem bitLenAux_le : ∀ f x : Nat, Lib.bitLenAux f x ≤ f
  | 0, x => by simp [Lib.bitLenAux]
  | f + 1, x => by
    have := bitLenAux_le f (x / 2)
    unfold Lib.bitLenAux
    split <;> omega
theorem bitLen63 (x : Nat) (h : x < 9223372036854775808) : Lib.bitLen x ≤ 63 := by
  unfold Lib.bitLen
  rw [Lib.bitLenAux_fuel 63 x h 64 (by omega)]
  exact bitLenAux_le 63 x
/-- A long's bucket. -/
def bkt (v : Int) : Nat := if v < 0 then 0 else if v = 0 then 1 else Lib.bitLen v.toNat + 1
theorem bkt_lt (v : Int) (h : v ≤ 9223372036854775807) : bkt v < 65 := by
  unfold bkt
  have := bitLen63 v.toNat (by omega)
  split
  · omega
  · split <;> omega
set_option maxRecDepth 100000 in
theorem bucket_any (v : Int) (w : World) (h1 : -9223372036854775808 ≤ v) (h2 : v ≤ 9223372036854775807) :
    Calls Tryz.prog 56 #[.int .i64 v] w fun e w' => e = .returned (.int .i64 (bkt v)) ∧ w = w' := by
  by_cases c1 : v < 0
  · have HE := hide (show bkt v = 0 from if_pos c1)
    go_enter Tryz.func56, Tryz.ntmps56
    go_wp2
    go_ret
    exact ⟨ret_int (by rw [HE.out]; rfl), rfl⟩
  by_cases c2 : v = 0
  · subst c2
    have HE := hide (show bkt 0 = 1 by decide)
    go_enter Tryz.func56, Tryz.ntmps56
    go_wp2
    go_ret
    exact ⟨ret_int (by rw [HE.out]; rfl), rfl⟩
  have HE := hide (show bkt v = Lib.bitLen v.toNat + 1 by unfold bkt; rw [if_neg c1, if_neg c2])
  have hl := bitLen63 v.toNat (by omega)
  have hw : IntKind.u64.wrap v = v := by simp [IntKind.wrap, IntKind.bits, IntKind.signed]; omega
  have HB := hide (Tryz.bits_Len64 v w (by omega) (by omega))
  have hn : (v == 0) = false := by simpa using c2
  generalize Lib.bitLen v.toNat = q at *
  go_enter Tryz.func56, Tryz.ntmps56
  go_wp2_with (go_at_call 75; refine HB.out.mono ?_; rintro e w' ⟨rfl, rfl⟩)
  go_ret
  exact ⟨ret_int (by rw [HE.out]; omega), rfl⟩

/-! ### the cells of a histogram -/
def hc (l : List Int) : Array Value := (l.map i64v).toArray
def z65 : List Int := List.replicate 65 0
theorem hc_z65 : Tryz.zeroCells39 = hc z65 := by kernel_rfl
theorem hc_size (l : List Int) : (hc l).size = l.length := by simp [hc]
theorem hc_get (l : List Int) (k : Nat) : (hc l)[k]? = l[k]?.map i64v := by simp [hc]
theorem hc_set (l : List Int) (k : Nat) (v : Int) : (hc l).setIfInBounds k (.int .i64 v) = hc (l.set k v) := by
  simp [hc, List.map_set, i64v]
theorem hc_one (l : List Int) : (hc l).all (·.oneCell') = true := by
  rw [Array.all_eq_true_iff_forall_mem]
  intro v hv
  simp only [hc, List.mem_toArray, List.mem_map] at hv
  obtain ⟨x, _, rfl⟩ := hv
  rfl
theorem info69 : (Tryz.prog.info? 39).map (·.size) = some 65 := by kernel_rfl
theorem info69l {l : List Int} (h : l.length = 65) : (Tryz.prog.info? 39).map (·.size) = some (hc l).size := by rw [info69, hc_size, h]
/-- One more in a bucket. -/
def bump (l : List Int) (b : Nat) : List Int := l.set b (l[b]?.getD 0 + 1)
def histL (xs : List Int) : List Int := xs.foldl (fun l v => bump l (bkt v)) z65
theorem bump_len (l : List Int) (b : Nat) : (bump l b).length = l.length := by simp [bump]
theorem fold_snoc' {α : Type} {σ : Type} (st : σ → α → σ) (l : List α) (k : Nat) (x : α) (s : σ) (h : l[k]? = some x) : (l.take (k + 1)).foldl st s = st ((l.take k).foldl st s) x := by
  rw [List.take_add_one, h, List.foldl_append]; rfl
set_option maxRecDepth 100000 in
theorem of_any (A : Option Addr) (n c : Nat) (xs : List Int) (w : World) (hr : Rd w w.heap.size 1 A n (xs.map i64v)) (hn : n ≤ 140737488351232) (hx : ∀ x ∈ xs, -9223372036854775808 ≤ x ∧ x ≤ 9223372036854775807) :
    Calls Tryz.prog 38 #[.slice A n c] w fun e w' => e = .returned (.agg (hc (histL xs))) ∧ Below w.heap.size w w' := by
  have HN := hide hr.len
  have HX := hide hx
  clear hx
  go_enter Tryz.func38, Tryz.ntmps38
  go_wp2_with fail
  rw [hc_z65]
  go_loopw [5, 8] (fun _ i wr => ∃ (k : Nat) (l : List Int), k ≤ n ∧ i = .int .i64 k ∧ Blk wr w.heap.size 39 (hc z65) ∧ Blk wr (w.heap.size + 1) 39 (hc l) ∧ l.length = 65 ∧ Below w.heap.size w wr ∧ Hid (l = (xs.take k).foldl (fun l v => bump l (bkt v)) z65) ∧ Hid (∀ (b : Nat) (x : Int), l[b]? = some x → 0 ≤ x ∧ x ≤ k)) (fun _ i _ => n - (intOf i).toNat)
  case atStart => 
    refine ⟨0, z65, Nat.zero_le _, rfl, (Blk.new _ _ _).alloc _, by simpa using Blk.new (w.alloc (.cells (hc z65) 39)) _ _, rfl, ((Below.refl _ _).alloc (Nat.le_refl _) _).alloc (by simp) _, hide rfl, hide (fun b x h => ?_)⟩
    have := List.mem_of_getElem? h
    have := List.eq_of_mem_replicate this
    omega
  case round =>
    obtain ⟨k, l, hk, rfl, b0, b1, hl, hb, HL, HC⟩ := hrel
    by_cases hk1 : k < n
    · obtain ⟨ba, off, rfl, hbb, x, hx, hcell⟩ := hr.get hk1
      have hc' := (hb.cell (p := ⟨ba, off + k, none⟩) hbb).trans hcell
      unfold i64v at hc'
      have HX1 := hide hx
      have hxl := HX.out x (List.mem_of_getElem? hx)
      have hlt := bkt_lt x hxl.2
      have HB := hide (fun w => bucket_any x w hxl.1 hxl.2)
      have hs := fold_snoc' (fun l v => bump l (bkt v)) xs k x z65 hx
      rw [← HL.out] at hs
      have HS := hide hs.symm
      clear hx hcell hs hxl
      generalize bkt x = b at *
      have hy : ∃ y, l[b]? = some y := ⟨l[b], List.getElem?_eq_getElem (by omega)⟩
      obtain ⟨y, hy⟩ := hy
      have hyb := HC.out b y hy
      have c1 := b1.cell b
      rw [hc_get, hy] at c1
      simp only [Option.map_some, i64v] at c1
      have f1 := b1.frozen b
      have HY := hide hy
      have H0 := hide b0
      have H1 := hide b1
      clear hy b0 b1
      go_wp2_with (go_at_call 56; refine (HB.out _).mono ?_; rintro e w' ⟨rfl, rfl⟩)
      go_roundw
      case rel =>
        refine ⟨k + 1, bump l b, by omega, by go_num, H0.out.far (by simp) _, ?_, by rw [bump_len]; exact hl, ?_, HS, hide (fun b' x' h' => ?_)⟩
        · have := H1.out.set_ b (.int .i64 (y + 1))
          rw [hc_set] at this
          rw [bump, HY.out]
          exact this
        · exact hb.setCell (by simp) _
        · unfold bump at h'
          rw [HY.out, List.getElem?_set] at h'
          by_cases hbb : b = b'
          · subst hbb
            simp [show b < l.length by omega] at h'
            subst h'
            simp; omega
          · rw [if_neg hbb] at h'
            have := HC.out b' x' h'
            omega
      case measure => simp [intOf]; omega
    · have htk : xs.take k = xs := List.take_of_length_le (by have := HN.out; omega)
      have hs := HL.out
      rw [htk] at hs
      have HS := hide (show l = histL xs from hs)
      clear hs HL HC
      have H0 := hide b0
      have H1 := hide b1
      have H9 := hide hl
      clear b0 b1 hl
      go_wp2_with (first
        | refine wpList_load_blk rfl 39 (.tmp 3) rfl _ rfl (hc l) _ H1.out Tryz.underlying39 rfl (info69l H9.out) ?_
        | refine wpList_store_blk rfl 39 (.tmp 2) (.tmp 19) rfl _ rfl (hc z65) (hc l) rfl H0.out (by rw [hc_size, hc_size, H9.out]; rfl) (info69l H9.out) (hc_one l) ?_)
      exact bodyPost_ret_by (results_cell rfl _ w.heap.size rfl (hc l) _ (H0.out.setRow _) Tryz.underlying39 rfl (info69l H9.out)) rfl ⟨by rw [HS.out], below_setRow hb (Nat.le_refl _) _⟩
end Go.Proofs.YtbjmdnemeidpjaaGreat
