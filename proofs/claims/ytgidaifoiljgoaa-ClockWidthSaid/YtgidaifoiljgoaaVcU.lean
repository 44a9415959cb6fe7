/- Contracts of the elder kind; slices that are lent. No program is named here. -/
import Derived.Test.YtgidaifoiljgoaaVcQ
namespace Go.Proofs.Ytgidaifoiljgoaa
set_option linter.unusedSimpArgs false
set_option linter.unusedVariables false
open Go.RowKit
mutual
def flatD : D → Bool
  | .v _ => true
  | .agg xs => flatDs xs
  | .sl _ _ => false
def flatDs : List D → Bool
  | [] => true
  | x :: r => flatD x && flatDs r
end
mutual
def flatA : AV → Bool
  | .d x => flatD x
  | .tup xs => flatAs xs
  | .any => true
  | _ => false
def flatAs : List AV → Bool
  | [] => true
  | x :: r => flatA x && flatAs r
end
section
variable {P : Program} {w w' : World} {F F' : Nat → Prop} {ρ ρ' : Nat → Option Value} {H : Hp} {L : List AObj} {n : Nat} {g : FuncId}
mutual
theorem RD.flat : ∀ (x : D) {v : Value}, flatD x = true → RD w F x v → RD w' F' x v
  | .v u, v, _, h => by cases h; exact .v _
  | .agg xs, v, l, h => by cases h with | agg h => exact .agg (RDs.flat xs (by simpa [flatD] using l) h)
  | .sl s r, v, l, _ => by simp [flatD] at l
theorem RDs.flat : ∀ (xs : List D) {vs : List Value}, flatDs xs = true → RDs w F xs vs → RDs w' F' xs vs
  | [], _, _, h => by cases h; exact .nil
  | x :: r, _, l, h => by simp [flatDs] at l; cases h with | cons h h1 hr => exact .cons (RD.flat x l.1 h) h1 (RDs.flat r l.2 hr)
end
mutual
theorem RA.flat : ∀ (x : AV) {v : Value}, flatA x = true → RA w F ρ x v → RA w' F' ρ' x v
  | .d x, v, l, h => by cases h with | d h => exact .d (h.flat x (by simpa [flatA] using l))
  | .tup xs, v, l, h => by cases h with | tup h => exact .tup (RAs.flat xs (by simpa [flatA] using l) h)
  | .any, v, _, _ => .any v
  | .ptr _ _, _, l, _ => by simp [flatA] at l
  | .own _, _, l, _ => by simp [flatA] at l
  | .ep _ _ _ _, _, l, _ => by simp [flatA] at l
  | .fp _, _, l, _ => by simp [flatA] at l
  | .agg _, _, l, _ => by simp [flatA] at l
  | .fn _ _ _, _, l, _ => by simp [flatA] at l
  | .mp _, _, l, _ => by simp [flatA] at l
theorem RAs.flat : ∀ (xs : List AV) {vs : List Value}, flatAs xs = true → RAs w F ρ xs vs → RAs w' F' ρ' xs vs
  | [], _, _, h => by cases h; exact .nil
  | x :: r, _, l, h => by simp [flatAs] at l; cases h with | cons h hr => exact .cons (RA.flat x l.1 h) (RAs.flat r l.2 hr)
end
/-! ### contracts of the elder kind -/
mutual
inductive FlatV : D → Value → Prop
  | v (u : Value) : FlatV (.v u) u
  | agg {xs : List D} {us : List Value} (h : FlatVs xs us) : FlatV (.agg xs) (.agg us.toArray)
inductive FlatVs : List D → List Value → Prop
  | nil : FlatVs [] []
  | cons {x : D} {xs : List D} {v : Value} {vs : List Value} (h : FlatV x v) (h1 : v.oneCell' = true) (hr : FlatVs xs vs) : FlatVs (x :: xs) (v :: vs)
end
mutual
inductive FlatW : AV → Value → Prop
  | d {x : D} {v : Value} (h : FlatV x v) : FlatW (.d x) v
  | tup {xs : List AV} {vs : List Value} (h : FlatWs xs vs) : FlatW (.tup xs) (.tuple vs.toArray)
inductive FlatWs : List AV → List Value → Prop
  | nil : FlatWs [] []
  | cons {x : AV} {xs : List AV} {v : Value} {vs : List Value} (h : FlatW x v) (hr : FlatWs xs vs) : FlatWs (x :: xs) (v :: vs)
end
mutual
theorem FlatV.rd : ∀ {x : D} {v : Value}, FlatV x v → RD w F x v
  | _, _, .v u => .v u
  | _, _, .agg h => .agg (FlatVs.rds h)
theorem FlatVs.rds : ∀ {x : List D} {v : List Value}, FlatVs x v → RDs w F x v
  | _, _, .nil => .nil
  | _, _, .cons h h1 hr => .cons (FlatV.rd h) h1 (FlatVs.rds hr)
end
mutual
theorem FlatV.eq : ∀ {x : D} {v u : Value}, FlatV x v → RD w F x u → u = v
  | _, _, _, .v u, h => by cases h; rfl
  | _, _, _, .agg h, k => by cases k with | agg k => rw [FlatVs.eq h k]
theorem FlatVs.eq : ∀ {x : List D} {v u : List Value}, FlatVs x v → RDs w F x u → u = v
  | _, _, _, .nil, h => by cases h; rfl
  | _, _, _, .cons h h1 hr, k => by cases k with | cons k k1 kr => rw [FlatV.eq h k, FlatVs.eq hr kr]
end
mutual
theorem FlatW.ra : ∀ {x : AV} {v : Value}, FlatW x v → RA w F ρ x v
  | _, _, .d h => .d h.rd
  | _, _, .tup h => .tup (FlatWs.ras h)
theorem FlatWs.ras : ∀ {x : List AV} {v : List Value}, FlatWs x v → RAs w F ρ x v
  | _, _, .nil => .nil
  | _, _, .cons h hr => .cons (FlatW.ra h) (FlatWs.ras hr)
end
mutual
theorem FlatW.eq : ∀ {x : AV} {v u : Value}, FlatW x v → RA w F ρ x u → u = v
  | _, _, _, .d h, k => by cases k with | d k => exact h.eq k
  | _, _, _, .tup h, k => by cases k with | tup k => rw [FlatWs.eq h k]
theorem FlatWs.eq : ∀ {x : List AV} {v u : List Value}, FlatWs x v → RAs w F ρ x u → u = v
  | _, _, _, .nil, h => by cases h; rfl
  | _, _, _, .cons h hr, k => by cases k with | cons k kr => rw [FlatW.eq h k, FlatWs.eq hr kr]
end
theorem step_below {w w' : World} (En : Env F ρ (hp []) w) (hb : Below w.heap.size w w') : Step F ρ (hp []) w F ρ (hp []) w' ∧ Env F ρ (hp []) w' := by
  have no : ∀ (i : Nat) (o : AObj), hp [] i = some o → False := fun i o h => by simp [hp] at h
  exact ⟨⟨hb.os, hb.tape, hb.output, hb.size, fun b h _ => hb.block b h, fun _ h => h, fun _ h => .inl h, fun b ⟨i, o, _, h, _⟩ => (no i o h).elim⟩,
    fun b h => Nat.lt_of_lt_of_le (En.fb b h) hb.size, En.abs, fun i o h => (no i o h).elim, fun i j o o' _ _ _ h => (no i o h).elim⟩
theorem Sat.of_calls {args : List AV} {vals : List Value} {r : AV} {rv : Value} (ha : FlatWs args vals) (hr : FlatW r rv) (h : ∀ w, Calls P g vals.toArray w fun e w' => e = .returned rv ∧ Below w.heap.size w w') : Sat P g args [] r [] := by
  intro F ρ w vs En hv
  have := ha.eq hv
  subst this
  refine (h w).mono ?_
  rintro e w' ⟨rfl, hb⟩
  obtain ⟨S, E'⟩ := step_below En hb
  exact ⟨rv, rfl, F, ρ, S, Keep.refl _, E', hr.ra⟩
theorem Sat.of_same {args : List AV} {vals : List Value} {r : AV} {rv : Value} (ha : FlatWs args vals) (hr : FlatW r rv) (h : ∀ w, Calls P g vals.toArray w fun e w' => e = .returned rv ∧ w = w') : Sat P g args [] r [] :=
  .of_calls ha hr fun w => (h w).mono fun e w' ⟨h1, h2⟩ => ⟨h1, by subst h2; exact Below.refl _ _⟩
/-! ### slices of the call's own that are lent to a function -/
def Lend (L : List AObj) : List AV → List AV → List Nat → Prop
  | [], [], ids => ids = []
  | .own i :: r, .d (.sl s rows) :: r1, ids => ∃ t, ids = i :: t ∧ L[i]? = some (.sl s rows) ∧ Lend L r r1 t
  | .d x :: r, .d y :: r1, ids => x = y ∧ Lend L r r1 ids
  | _, _, _ => False
theorem Lend.ras {F1 : Nat → Prop} (En : Env F ρ H w) (hF : ∀ b, F b → F1 b) : ∀ {args args1 : List AV} {ids : List Nat} {vs : List Value}, Lend L args args1 ids → (∀ i ∈ ids, H i = L[i]?) → (∀ i ∈ ids, ∀ h, ρ i = some h → ∀ b, blkOf h = some b → F1 b) → RAs w F ρ args vs → RAs w F1 (fun _ => none) args1 vs
  | [], [], _, _, _, _, _, h => by cases h; exact .nil
  | .d x :: r, .d y :: r1, ids, _, h, hi, hb, hv => by
    obtain ⟨rfl, h2⟩ := h
    cases hv with | cons hv hr => cases hv with | d hv => exact .cons (.d (hv.mono (fun _ _ => rfl) hF)) (Lend.ras En hF h2 hi hb hr)
  | .own i :: r, .d (.sl s rows) :: r1, ids, _, h, hi, hb, hv => by
    obtain ⟨t, rfl, h1, h2⟩ := h
    cases hv with | cons hv hr =>
      refine .cons ?_ (Lend.ras En hF h2 (fun j hj => hi j (List.mem_cons_of_mem _ hj)) (fun j hj => hb j (List.mem_cons_of_mem _ hj)) hr)
      have hi' : H i = some (.sl s rows) := by rw [hi i (List.mem_cons_self ..)]; exact h1
      cases hv with | own hv =>
        rename_i A m c
        obtain ⟨hh, e1, ⟨vs, how, hra, hs⟩, e3⟩ := En.rep i _ hi' rfl
        rw [hv] at e1; injection e1 with e1; subst e1
        obtain ⟨A', c', he, g1, g2, hrd⟩ := how.form
        injection he with q1 q2 q3
        subst q1 q2 q3
        refine .d (.sl rfl hs g1 g2 (hra.mono (fun _ _ => rfl) hF) fun hp => ?_)
        rcases Nat.eq_zero_or_pos s with hs0 | hs0
        · have hvs : vs = [] := List.eq_nil_of_length_eq_zero (by rw [hrd.1, hs0]; simp)
          subst hvs
          obtain ⟨g, off, cap, he, _⟩ := how.open_ hp
          injection he with q1 _ _
          subst q1
          exact ⟨g, off, rfl, hb i (List.mem_cons_self ..) _ hv g rfl, fun j hj => by simp at hj⟩
        · obtain ⟨b, off, rfl, _, hc⟩ := hrd.2 hp
          exact ⟨b, off, rfl, hb i (List.mem_cons_self ..) _ hv b rfl, hc⟩
  | [], _ :: _, _, _, h, _, _, _ => by simp [Lend] at h
  | .ptr .. :: _, _, _, _, h, _, _, _ => by simp [Lend] at h
  | .ep .. :: _, _, _, _, h, _, _, _ => by simp [Lend] at h
  | .fp .. :: _, _, _, _, h, _, _, _ => by simp [Lend] at h
  | .agg .. :: _, _, _, _, h, _, _, _ => by simp [Lend] at h
  | .tup .. :: _, _, _, _, h, _, _, _ => by simp [Lend] at h
  | .fn .. :: _, _, _, _, h, _, _, _ => by simp [Lend] at h
  | .mp .. :: _, _, _, _, h, _, _, _ => by simp [Lend] at h
  | .any :: _, _, _, _, h, _, _, _ => by simp [Lend] at h
  | .own _ :: _, [], _, _, h, _, _, _ => by simp [Lend] at h
  | .own _ :: _, .d (.v _) :: _, _, _, h, _, _, _ => by simp [Lend] at h
  | .own _ :: _, .d (.agg _) :: _, _, _, h, _, _, _ => by simp [Lend] at h
  | .own _ :: _, .ptr .. :: _, _, _, h, _, _, _ => by simp [Lend] at h
  | .own _ :: _, .own .. :: _, _, _, h, _, _, _ => by simp [Lend] at h
  | .own _ :: _, .ep .. :: _, _, _, h, _, _, _ => by simp [Lend] at h
  | .own _ :: _, .fp .. :: _, _, _, h, _, _, _ => by simp [Lend] at h
  | .own _ :: _, .agg .. :: _, _, _, h, _, _, _ => by simp [Lend] at h
  | .own _ :: _, .tup .. :: _, _, _, h, _, _, _ => by simp [Lend] at h
  | .own _ :: _, .fn .. :: _, _, _, h, _, _, _ => by simp [Lend] at h
  | .own _ :: _, .mp .. :: _, _, _, h, _, _, _ => by simp [Lend] at h
  | .own _ :: _, .any :: _, _, _, h, _, _, _ => by simp [Lend] at h
  | .d _ :: _, [], _, _, h, _, _, _ => by simp [Lend] at h
  | .d _ :: _, .ptr .. :: _, _, _, h, _, _, _ => by simp [Lend] at h
  | .d _ :: _, .own .. :: _, _, _, h, _, _, _ => by simp [Lend] at h
  | .d _ :: _, .ep .. :: _, _, _, h, _, _, _ => by simp [Lend] at h
  | .d _ :: _, .fp .. :: _, _, _, h, _, _, _ => by simp [Lend] at h
  | .d _ :: _, .agg .. :: _, _, _, h, _, _, _ => by simp [Lend] at h
  | .d _ :: _, .tup .. :: _, _, _, h, _, _, _ => by simp [Lend] at h
  | .d _ :: _, .fn .. :: _, _, _, h, _, _, _ => by simp [Lend] at h
  | .d _ :: _, .mp .. :: _, _, _, h, _, _, _ => by simp [Lend] at h
  | .d _ :: _, .any :: _, _, _, h, _, _, _ => by simp [Lend] at h
theorem Sat.lend {args args1 : List AV} {r : AV} {ids : List Nat} (h : Sat P g args1 [] r []) (hl : Lend L args args1 ids) (hr : flatA r = true) (hlive : ∀ i ∈ ids, ∃ o, L[i]? = some o ∧ o.live = true) : CallOK P g args L n ⟨ids, [], []⟩ r := by
  intro H F ρ w vals En hrs _ hv
  have hH : ∀ i ∈ ids, ∀ hh, ρ i = some hh → ∀ b, blkOf hh = some b → b < w.heap.size := by
    intro i hi hh hρ b hb
    obtain ⟨o, ho, hlv⟩ := hlive i hi
    obtain ⟨h0, e1, _, e3⟩ := En.rep i o (by rw [hrs i hi]; exact ho) hlv
    rw [hρ] at e1; injection e1 with e1; subst e1
    exact (e3 b hb).1
  let F1 : Nat → Prop := fun b => F b ∨ ∃ i ∈ ids, ∃ hh, ρ i = some hh ∧ blkOf hh = some b
  have E1 : Env F1 (fun _ => none) (hp []) w := ⟨fun b hb => hb.elim (En.fb b) fun ⟨i, hi, hh, h1, h2⟩ => hH i hi hh h1 b h2, fun _ _ => rfl, fun i o h => by simp [hp] at h, fun i j o o' _ _ _ h => by simp [hp] at h⟩
  refine (h F1 (fun _ => none) w vals E1 (hl.ras En (fun _ h => .inl h) hrs (fun i hi hh h1 b h2 => .inr ⟨i, hi, hh, h1, h2⟩) hv)).mono ?_
  rintro en w' ⟨v, rfl, F2, ρ2, S, _, E2, R⟩
  have hold : ∀ b, b < w.heap.size → w'.heap[b]? = w.heap[b]? := fun b hb => S.unch b hb fun ⟨i, o, _, h, _⟩ => by simp [hp] at h
  refine ⟨v, rfl, fun b => F2 b ∧ (F b ∨ w.heap.size ≤ b), ρ, ⟨S.os, S.tape, S.output, S.size, fun b hb _ => hold b hb, fun b hb => ⟨S.fsub b (.inl hb), .inl hb⟩, fun b hb => hb.2.elim .inl fun q => .inr (.inl q), fun b hb => .inr hb⟩, Keep.refl _, ?_, R.flat r hr⟩
  refine ⟨fun b hb => E2.fb b hb.1, En.abs, fun i o hi hlv => ?_, En.inj⟩
  obtain ⟨hh, e1, e2, e3⟩ := En.rep i o hi hlv
  exact ⟨hh, e1, e2.mono S.size (fun b _ hlt => hold b hlt) (fun b hb => hold b (En.fb b hb)) (fun b hb => ⟨S.fsub b (.inl hb), .inl hb⟩) (Keep.refl _), fun b hb => ⟨Nat.lt_of_lt_of_le (e3 b hb).1 S.size, fun q => q.2.elim (e3 b hb).2 fun q => by have := (e3 b hb).1; omega⟩⟩
theorem lend_live {args args1 : List AV} {ids : List Nat} : Lend L args args1 ids → ∀ i ∈ ids, ∃ o, L[i]? = some o ∧ o.live = true := by
  induction args generalizing args1 ids with
  | nil => intro h i hi; cases args1 <;> simp [Lend] at h; subst h; simp at hi
  | cons x r ih =>
    intro h i hi
    cases args1 with
    | nil => cases x <;> simp [Lend] at h
    | cons y r1 =>
      cases x <;> try (simp [Lend] at h; done)
      · cases y <;> try (simp [Lend] at h; done)
        exact ih h.2 i hi
      · cases y <;> try (simp [Lend] at h; done)
        rename_i j y
        cases y <;> try (simp [Lend] at h; done)
        obtain ⟨t, rfl, h1, h2⟩ := h
        rcases List.mem_cons.1 hi with e | e
        · subst e; exact ⟨_, h1, rfl⟩
        · exact ih h2 i e
/-- .. as it is used: one slice, lent in the first place. -/
theorem Sat.lend1 {i s : Nat} {rows : List (List D)} {as : List D} {r : AV} (h : Sat P g (.d (.sl s rows) :: as.map .d) [] r []) (hi : L[i]? = some (.sl s rows)) (hr : flatA r = true) : CallOK P g (.own i :: as.map .d) L n ⟨[i], [], []⟩ r := by
  have hall : ∀ (as : List D), Lend L (as.map .d) (as.map .d) [] := by
    intro as
    induction as with
    | nil => rfl
    | cons a as ih => exact ⟨rfl, ih⟩
  have hl : Lend L (.own i :: as.map .d) (.d (.sl s rows) :: as.map .d) [i] := ⟨[], rfl, hi, hall as⟩
  exact h.lend hl hr (lend_live hl)
/-- A slice of the call's own is lent; a new one comes back. -/
theorem Sat.lendNew {i s s' : Nat} {rows rows' : List (List D)} {as : List D} {us : List Value} (h : Sat P g (.d (.sl s rows) :: as.map .d) [] (.own 0) [.sl s' rows']) (hi : L[i]? = some (.sl s rows)) (hf : FlatVs rows'.flatten us) :
    CallOK P g (.own i :: as.map .d) L n ⟨[i], [], [.sl s' rows']⟩ (.own n) := by
  have hall : ∀ (as : List D), Lend L (as.map .d) (as.map .d) [] := by
    intro as
    induction as with
    | nil => rfl
    | cons a as ih => exact ⟨rfl, ih⟩
  have hl : Lend L (.own i :: as.map .d) (.d (.sl s rows) :: as.map .d) [i] := ⟨[], rfl, hi, hall as⟩
  have hlive := lend_live hl
  intro H F ρ w vals En hrs hnew hv
  have hH : ∀ j ∈ [i], ∀ hh, ρ j = some hh → ∀ b, blkOf hh = some b → b < w.heap.size := by
    intro j hj hh hρ b hb
    obtain ⟨o, ho, hlv⟩ := hlive j hj
    obtain ⟨h0, e1, _, e3⟩ := En.rep j o (by rw [hrs j hj]; exact ho) hlv
    rw [hρ] at e1; injection e1 with e1; subst e1
    exact (e3 b hb).1
  let F1 : Nat → Prop := fun b => F b ∨ ∃ j ∈ [i], ∃ hh, ρ j = some hh ∧ blkOf hh = some b
  have E1 : Env F1 (fun _ => none) (hp []) w := ⟨fun b hb => hb.elim (En.fb b) fun ⟨j, hj, hh, h1, h2⟩ => hH j hj hh h1 b h2, fun _ _ => rfl, fun i o h => by simp [hp] at h, fun i j o o' _ _ _ h => by simp [hp] at h⟩
  refine (h F1 (fun _ => none) w vals E1 (hl.ras En (fun _ h => .inl h) hrs (fun j hj hh h1 b h2 => .inr ⟨j, hj, hh, h1, h2⟩) hv)).mono ?_
  rintro en w' ⟨v, rfl, F2, ρ2, S, _, E2, R⟩
  have nolv : ∀ b, ¬ Lv (fun _ => none) (hp []) b := fun b ⟨i, o, _, h, _⟩ => by simp [hp] at h
  have hG : w.grownBy w' none := ⟨S.os, S.tape, S.output, S.size, fun b hb _ => S.unch b hb (nolv b)⟩
  obtain ⟨hh, e1, ⟨vs, how, hra, hs⟩, e3⟩ := E2.rep 0 _ rfl rfl
  obtain rfl := hf.eq hra
  cases R with | own R =>
  rw [R] at e1; injection e1 with e1; subst e1
  have hn : H n = none := by simpa using hnew 0 (by simp)
  obtain ⟨S', K', E'⟩ := En.new (n := n) (o' := .sl s' rows') hn hG (fun b hb => ⟨(S.lsrc b ⟨0, _, _, rfl, rfl, R, hb⟩).elim id fun q => (nolv b q).elim, (e3 b hb).1⟩) ⟨_, how, hf.rds, hs⟩
  exact ⟨_, rfl, F, _, S', K', E', .own (updF_same _ _ _)⟩
/-- Data of a slice, as the elder contracts have it. -/
theorem RD.sl_rd {s : Nat} {rows : List (List D)} {us : List Value} {v : Value} (h : RD w F (.sl s rows) v) (hF : ∀ b, F b → b < w.heap.size) (hf : FlatVs rows.flatten us) : ∃ A c, v = .slice A rows.length c ∧ rows.length ≤ c ∧ c ≤ maxLen ∧ Rd w w.heap.size s A rows.length us := by
  cases h with | sl hn hs h1 h2 hr hm =>
    subst hn
    have := hf.eq hr
    subst this
    refine ⟨_, _, rfl, h1, h2, ⟨by rw [hr.length, flat_len hs], fun hp => ?_⟩⟩
    obtain ⟨b, off, e, hb, hc⟩ := hm hp
    exact ⟨b, off, e, hF b hb, hc⟩
theorem flat_map {α : Type} {f : α → List D} {q : α → List Value} (h : ∀ a, FlatVs (f a) (q a)) : ∀ (l : List α), FlatVs (l.map f).flatten (l.map q).flatten
  | [] => .nil
  | a :: l => by
    rw [List.map_cons, List.flatten_cons, List.map_cons, List.flatten_cons]
    have app : ∀ {xs ys : List D} {us vs : List Value}, FlatVs xs us → FlatVs ys vs → FlatVs (xs ++ ys) (us ++ vs) := by
      intro xs
      induction xs with
      | nil => intro ys us vs h k; cases h; exact k
      | cons x xs ih => intro ys us vs h k; cases h with | cons h h1 hr => exact .cons h h1 (ih hr k)
    exact app (h a) (flat_map h l)
end
end Go.Proofs.Ytgidaifoiljgoaa
