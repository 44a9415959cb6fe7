/- How the abstract heap goes on: a new object, a changed one, one that comes in place of another, one that turns to data. No program is named here. -/
import Derived.Test.YtgidaifoiljgoaaVcA
namespace Go.Proofs.Ytgidaifoiljgoaa
set_option linter.unusedSimpArgs false
set_option linter.unusedVariables false
open Go.RowKit
section
variable {F F' : Nat → Prop} {ρ ρ' : Nat → Option Value} {H H' : Hp} {w w' : World}
theorem ORep.mono {h : Value} {o : AObj} (hr : ORep w F ρ h o) (hs : w.heap.size ≤ w'.heap.size) (hb : ∀ b, blkOf h = some b → b < w.heap.size → w'.heap[b]? = w.heap[b]?) (hm : ∀ b, F b → w'.heap[b]? = w.heap[b]?) (hF : ∀ b, F b → F' b) (hk : Keep ρ ρ') : ORep w' F' ρ' h o := by
  cases o with
  | dead => trivial
  | cells cs =>
    obtain ⟨b, t, vs, rfl, hB, hra, h1⟩ := hr
    exact ⟨b, t, vs, rfl, (hb b rfl hB.lt).trans hB, hra.mono hm hF hk, h1⟩
  | row xs =>
    obtain ⟨b, t, vs, rfl, hB, hra⟩ := hr
    exact ⟨b, t, vs, rfl, (hb b rfl hB.lt).trans hB, hra.mono hm hF⟩
  | sl size rows =>
    obtain ⟨vs, how, hra, hl⟩ := hr
    refine ⟨vs, how.same hs (fun k hk hlt => hb k ?_ hlt), hra.mono hm hF, hl⟩
    cases h <;> simp [Value.ownBlock] at hk
    rename_i a n c
    cases a <;> simp at hk
    simp [blkOf, hk]
  | obj p =>
    obtain ⟨b, o, hh, ho, hp⟩ := hr
    have hlt : b < w.heap.size := (Array.getElem?_eq_some_iff.1 ho).1
    exact ⟨b, o, hh, (hb b (by rcases hh with rfl | rfl <;> rfl) hlt).trans ho, hp⟩

def updF {α : Type} (f : Nat → Option α) (i : Nat) (x : Option α) : Nat → Option α := fun j => if j = i then x else f j
theorem updF_same {α : Type} (f : Nat → Option α) (i : Nat) (x : Option α) : updF f i x i = x := if_pos rfl
theorem updF_ne {α : Type} (f : Nat → Option α) {i j : Nat} (x : Option α) (h : j ≠ i) : updF f i x j = f j := if_neg h
theorem keep_upd {f : Nat → Option Value} {i : Nat} {x : Value} (h : f i = none) : Keep f (updF f i (some x)) := fun j v hv => by
  by_cases e : j = i
  · subst e; rw [h] at hv; cases hv
  · rw [updF_ne _ _ e]; exact hv

/-- An object that was there is another one now, behind the same handle. -/
theorem Env.upd (E : Env F ρ H w) {i : Nat} {o o' : AObj} {h : Value} (hi : H i = some o) (hl : o.live = true) (hρ : ρ i = some h) (hG : w.grownBy w' (blkOf h)) (hr : ORep w' F ρ h o') :
    Step F ρ H w F ρ (updF H i (some o')) w' ∧ Env F ρ (updF H i (some o')) w' := by
  have hnF : ∀ b, blkOf h = some b → b < w.heap.size ∧ ¬ F b := by
    obtain ⟨h0, e0, _, hk⟩ := E.rep i o hi hl
    rw [hρ] at e0; injection e0 with e0; subst e0
    exact hk
  have hm : ∀ b, F b → w'.heap[b]? = w.heap[b]? := fun b hb => hG.block b (E.fb b hb) fun e => (hnF b e.symm).2 hb
  have old : ∀ b, Lv ρ (updF H i (some o')) b → Lv ρ H b := by
    rintro b ⟨j, oj, hj, e1, e2, e3, e4⟩
    by_cases e : j = i
    · subst e; exact ⟨j, o, hj, hi, hl, e3, e4⟩
    · rw [updF_ne _ _ e] at e1; exact ⟨j, oj, hj, e1, e2, e3, e4⟩
  refine ⟨⟨hG.os, hG.tape, hG.output, hG.size, fun b hb hn => hG.block b hb fun e => hn ⟨i, o, h, hi, hl, hρ, e.symm⟩, fun _ h => h, fun _ h => .inl h, fun b hb => .inr (old b hb)⟩, ?_⟩
  refine ⟨fun b hb => Nat.lt_of_lt_of_le (E.fb b hb) hG.size, fun j hj => ?_, fun j oj hj hlj => ?_, fun j k oj ok hj hk b e1 e2 l1 l2 r1 r2 b1 b2 => ?_⟩
  · by_cases e : j = i
    · subst e; rw [updF_same] at hj; cases hj
    · rw [updF_ne _ _ e] at hj; exact E.abs j hj
  · by_cases e : j = i
    · subst e; rw [updF_same] at hj; injection hj with hj; subst hj
      exact ⟨h, hρ, hr, fun b hb => ⟨Nat.lt_of_lt_of_le (hnF b hb).1 hG.size, (hnF b hb).2⟩⟩
    · rw [updF_ne _ _ e] at hj
      obtain ⟨hh, e1, e2, e3⟩ := E.rep j oj hj hlj
      refine ⟨hh, e1, e2.mono hG.size (fun b hb hlt => hG.block b hlt fun e' => e (E.inj j i oj o hh h b hj hi hlj hl e1 hρ hb e'.symm)) hm (fun _ h => h) (Keep.refl ρ), fun b hb => ⟨Nat.lt_of_lt_of_le (e3 b hb).1 hG.size, (e3 b hb).2⟩⟩
  · have f : ∀ (j : Nat) (oj : AObj), updF H i (some o') j = some oj → oj.live = true → ∃ o2, H j = some o2 ∧ o2.live = true := by
      intro j oj hj hlj
      by_cases e : j = i
      · subst e; exact ⟨o, hi, hl⟩
      · rw [updF_ne _ _ e] at hj; exact ⟨oj, hj, hlj⟩
    obtain ⟨o2, g1, g2⟩ := f j oj e1 l1
    obtain ⟨o3, g3, g4⟩ := f k ok e2 l2
    exact E.inj j k o2 o3 hj hk b g1 g3 g2 g4 r1 r2 b1 b2

/-- A new object, behind a handle of a new block (or of none). -/
theorem Env.new (E : Env F ρ H w) {n : Nat} {o' : AObj} {h : Value} (hn : H n = none) (hG : w.grownBy w' none) (hb : ∀ b, blkOf h = some b → w.heap.size ≤ b ∧ b < w'.heap.size) (hr : ORep w' F (updF ρ n (some h)) h o') :
    Step F ρ H w F (updF ρ n (some h)) (updF H n (some o')) w' ∧ Keep ρ (updF ρ n (some h)) ∧ Env F (updF ρ n (some h)) (updF H n (some o')) w' := by
  have hkp := keep_upd (x := h) (E.abs n hn)
  have hm : ∀ b, F b → w'.heap[b]? = w.heap[b]? := fun b hb => hG.block b (E.fb b hb) (by simp)
  refine ⟨⟨hG.os, hG.tape, hG.output, hG.size, fun b hb _ => hG.block b hb (by simp), fun _ h => h, fun _ h => .inl h, fun b hlv => ?_⟩, hkp, ?_⟩
  · obtain ⟨j, oj, hj, e1, e2, e3, e4⟩ := hlv
    by_cases e : j = n
    · subst e; rw [updF_same] at e3; injection e3 with e3; subst e3; exact .inl (hb b e4).1
    · rw [updF_ne _ _ e] at e1 e3; exact .inr ⟨j, oj, hj, e1, e2, e3, e4⟩
  · refine ⟨fun b hb => Nat.lt_of_lt_of_le (E.fb b hb) hG.size, fun j hj => ?_, fun j oj hj hlj => ?_, fun j k oj ok hj hk b e1 e2 l1 l2 r1 r2 b1 b2 => ?_⟩
    · by_cases e : j = n
      · subst e; rw [updF_same] at hj; cases hj
      · rw [updF_ne _ _ e] at hj ⊢; exact E.abs j hj
    · by_cases e : j = n
      · subst e; rw [updF_same] at hj; injection hj with hj; subst hj
        exact ⟨h, updF_same _ _ _, hr, fun b hbb => ⟨(hb b hbb).2, fun hF => by have := E.fb b hF; have := (hb b hbb).1; omega⟩⟩
      · rw [updF_ne _ _ e] at hj
        obtain ⟨hh, e1, e2, e3⟩ := E.rep j oj hj hlj
        exact ⟨hh, by rw [updF_ne _ _ e]; exact e1, e2.mono hG.size (fun b _ hlt => hG.block b hlt (by simp)) hm (fun _ h => h) hkp, fun b hb => ⟨Nat.lt_of_lt_of_le (e3 b hb).1 hG.size, (e3 b hb).2⟩⟩
    · have old : ∀ (j : Nat) (oj : AObj) (hj : Value) (b : Nat), j ≠ n → updF H n (some o') j = some oj → oj.live = true → updF ρ n (some h) j = some hj → blkOf hj = some b → H j = some oj ∧ ρ j = some hj ∧ b < w.heap.size := by
        intro j oj hj b e e1 l1 r1 b1
        rw [updF_ne _ _ e] at e1 r1
        obtain ⟨hh, q1, _, q3⟩ := E.rep j oj e1 l1
        rw [r1] at q1; injection q1 with q1; subst q1
        exact ⟨e1, r1, (q3 b b1).1⟩
      by_cases ej : j = n <;> by_cases ek : k = n
      · rw [ej, ek]
      · subst ej
        rw [updF_same] at r1; injection r1 with r1; subst r1
        have := (old k ok hk b ek e2 l2 r2 b2).2.2
        have := (hb b b1).1
        omega
      · subst ek
        rw [updF_same] at r2; injection r2 with r2; subst r2
        have := (old j oj hj b ej e1 l1 r1 b1).2.2
        have := (hb b b2).1
        omega
      · obtain ⟨q1, q2, _⟩ := old j oj hj b ej e1 l1 r1 b1
        obtain ⟨q3, q4, _⟩ := old k ok hk b ek e2 l2 r2 b2
        exact E.inj j k oj ok hj hk b q1 q3 l1 l2 q2 q4 b1 b2

/-- An object is given up. -/
theorem Env.kill (E : Env F ρ H w) (i : Nat) {o : AObj} (hi : H i = some o) : Step F ρ H w F ρ (updF H i (some .dead)) w ∧ Env F ρ (updF H i (some .dead)) w := by
  have f : ∀ (j : Nat) (oj : AObj), updF H i (some .dead) j = some oj → oj.live = true → H j = some oj := by
    intro j oj hj hlj
    by_cases e : j = i
    · subst e; rw [updF_same] at hj; injection hj with hj; subst hj; cases hlj
    · rw [updF_ne _ _ e] at hj; exact hj
  refine ⟨⟨rfl, rfl, rfl, Nat.le_refl _, fun _ _ _ => rfl, fun _ h => h, fun _ h => .inl h, fun b ⟨j, oj, hj, e1, e2, e3, e4⟩ => .inr ⟨j, oj, hj, f j oj e1 e2, e2, e3, e4⟩⟩, E.fb, fun j hj => ?_, fun j oj hj hlj => E.rep j oj (f j oj hj hlj) hlj, fun j k oj ok hj hk b e1 e2 l1 l2 => E.inj j k oj ok hj hk b (f j oj e1 l1) (f k ok e2 l2) l1 l2⟩
  by_cases e : j = i
  · subst e; rw [updF_same] at hj; cases hj
  · rw [updF_ne _ _ e] at hj; exact E.abs j hj

/-- An object comes in the place of another one, which is given up: append. -/
theorem Env.swap (E : Env F ρ H w) {i n : Nat} {o o' : AObj} {h h' : Value} (hi : H i = some o) (hl : o.live = true) (hρ : ρ i = some h) (hn : H n = none) (hG : w.grownBy w' (blkOf h))
    (hb : ∀ b, blkOf h' = some b → (w.heap.size ≤ b ∧ b < w'.heap.size) ∨ blkOf h = some b) (hr : ORep w' F (updF ρ n (some h')) h' o') :
    Step F ρ H w F (updF ρ n (some h')) (updF (updF H i (some .dead)) n (some o')) w' ∧ Keep ρ (updF ρ n (some h')) ∧ Env F (updF ρ n (some h')) (updF (updF H i (some .dead)) n (some o')) w' := by
  have hkp := keep_upd (x := h') (E.abs n hn)
  have hin : i ≠ n := fun e => by subst e; rw [hi] at hn; cases hn
  have hnF : ∀ b, blkOf h = some b → b < w.heap.size ∧ ¬ F b := by
    obtain ⟨h0, e0, _, hk⟩ := E.rep i o hi hl
    rw [hρ] at e0; injection e0 with e0; subst e0
    exact hk
  have hm : ∀ b, F b → w'.heap[b]? = w.heap[b]? := fun b hb => hG.block b (E.fb b hb) fun e => (hnF b e.symm).2 hb
  have f : ∀ (j : Nat) (oj : AObj) (hj : Value), j ≠ n → updF (updF H i (some .dead)) n (some o') j = some oj → oj.live = true → updF ρ n (some h') j = some hj → j ≠ i ∧ H j = some oj ∧ ρ j = some hj := by
    intro j oj hj e hj2 hlj hr
    rw [updF_ne _ _ e] at hj2 hr
    by_cases e' : j = i
    · subst e'; rw [updF_same] at hj2; injection hj2 with hj2; subst hj2; cases hlj
    · rw [updF_ne _ _ e'] at hj2; exact ⟨e', hj2, hr⟩
  refine ⟨⟨hG.os, hG.tape, hG.output, hG.size, fun b hb hn => hG.block b hb fun e => hn ⟨i, o, h, hi, hl, hρ, e.symm⟩, fun _ h => h, fun _ h => .inl h, fun b hlv => ?_⟩, hkp, ?_⟩
  · obtain ⟨j, oj, hj, e1, e2, e3, e4⟩ := hlv
    by_cases e : j = n
    · subst e; rw [updF_same] at e3; injection e3 with e3; subst e3
      exact (hb b e4).elim (fun h => .inl h.1) fun h => .inr ⟨i, o, _, hi, hl, hρ, h⟩
    · obtain ⟨_, q1, q2⟩ := f j oj hj e e1 e2 e3
      exact .inr ⟨j, oj, hj, q1, e2, q2, e4⟩
  · refine ⟨fun b hb => Nat.lt_of_lt_of_le (E.fb b hb) hG.size, fun j hj => ?_, fun j oj hj hlj => ?_, fun j k oj ok hj hk b e1 e2 l1 l2 r1 r2 b1 b2 => ?_⟩
    · by_cases e : j = n
      · subst e; rw [updF_same] at hj; cases hj
      · rw [updF_ne _ _ e] at hj ⊢
        by_cases e' : j = i
        · subst e'; rw [updF_same] at hj; cases hj
        · rw [updF_ne _ _ e'] at hj; exact E.abs j hj
    · by_cases e : j = n
      · subst e; rw [updF_same] at hj; injection hj with hj; subst hj
        refine ⟨h', updF_same _ _ _, hr, fun b hbb => ?_⟩
        rcases hb b hbb with q | q
        · exact ⟨q.2, fun hF => by have := E.fb b hF; omega⟩
        · exact ⟨Nat.lt_of_lt_of_le (hnF b q).1 hG.size, (hnF b q).2⟩
      · have hj0 := hj
        rw [updF_ne _ _ e] at hj
        by_cases e' : j = i
        · subst e'; rw [updF_same] at hj; injection hj with hj; subst hj; cases hlj
        · rw [updF_ne _ _ e'] at hj
          obtain ⟨hh, e1, e2, e3⟩ := E.rep j oj hj hlj
          exact ⟨hh, by rw [updF_ne _ _ e]; exact e1, e2.mono hG.size (fun b hb hlt => hG.block b hlt fun q => e' (E.inj j i oj o hh h b hj hi hlj hl e1 hρ hb q.symm)) hm (fun _ h => h) hkp, fun b hb => ⟨Nat.lt_of_lt_of_le (e3 b hb).1 hG.size, (e3 b hb).2⟩⟩
    · have old : ∀ (j : Nat) (oj : AObj) (hj : Value) (b : Nat), j ≠ n → updF (updF H i (some .dead)) n (some o') j = some oj → oj.live = true → updF ρ n (some h') j = some hj → blkOf hj = some b → blkOf h' = some b → False := by
        intro j oj hj b e q1 q2 q3 q4 q5
        obtain ⟨g1, g2, g3⟩ := f j oj hj e q1 q2 q3
        rcases hb b q5 with q | q
        · obtain ⟨hh, p1, _, p3⟩ := E.rep j oj g2 q2
          rw [g3] at p1; injection p1 with p1; subst p1
          have := (p3 b q4).1
          omega
        · exact g1 (E.inj j i oj o hj h b g2 hi q2 hl g3 hρ q4 q)
      by_cases ej : j = n <;> by_cases ek : k = n
      · rw [ej, ek]
      · subst ej; rw [updF_same] at r1; injection r1 with r1; subst r1
        exact (old k ok hk b ek e2 l2 r2 b2 b1).elim
      · subst ek; rw [updF_same] at r2; injection r2 with r2; subst r2
        exact (old j oj hj b ej e1 l1 r1 b1 b2).elim
      · obtain ⟨_, q1, q2⟩ := f j oj hj ej e1 l1 r1
        obtain ⟨_, q3, q4⟩ := f k ok hk ek e2 l2 r2
        exact E.inj j k oj ok hj hk b q1 q3 l1 l2 q2 q4 b1 b2

/-- An object turns to data that never changes again. -/
theorem Env.freeze (E : Env F ρ H w) {i : Nat} {o : AObj} {h : Value} (hi : H i = some o) (hl : o.live = true) (hρ : ρ i = some h) :
    Step F ρ H w (fun b => F b ∨ blkOf h = some b) ρ (updF H i (some .dead)) w ∧ Env (fun b => F b ∨ blkOf h = some b) ρ (updF H i (some .dead)) w := by
  have f : ∀ (j : Nat) (oj : AObj), updF H i (some .dead) j = some oj → oj.live = true → j ≠ i ∧ H j = some oj := by
    intro j oj hj hlj
    by_cases e : j = i
    · subst e; rw [updF_same] at hj; injection hj with hj; subst hj; cases hlj
    · rw [updF_ne _ _ e] at hj; exact ⟨e, hj⟩
  have hnF : ∀ b, blkOf h = some b → b < w.heap.size ∧ ¬ F b := by
    obtain ⟨h0, e0, _, hk⟩ := E.rep i o hi hl
    rw [hρ] at e0; injection e0 with e0; subst e0
    exact hk
  refine ⟨⟨rfl, rfl, rfl, Nat.le_refl _, fun _ _ _ => rfl, fun _ h => .inl h, fun b hb => hb.elim .inl fun e => .inr (.inr ⟨i, o, h, hi, hl, hρ, e⟩), fun b ⟨j, oj, hj, e1, e2, e3, e4⟩ => .inr ⟨j, oj, hj, (f j oj e1 e2).2, e2, e3, e4⟩⟩, fun b hb => hb.elim (E.fb b) fun e => (hnF b e).1, fun j hj => ?_, fun j oj hj hlj => ?_, fun j k oj ok hj hk b e1 e2 l1 l2 => E.inj j k oj ok hj hk b (f j oj e1 l1).2 (f k ok e2 l2).2 l1 l2⟩
  · by_cases e : j = i
    · subst e; rw [updF_same] at hj; cases hj
    · rw [updF_ne _ _ e] at hj; exact E.abs j hj
  · obtain ⟨e, q⟩ := f j oj hj hlj
    obtain ⟨hh, e1, e2, e3⟩ := E.rep j oj q hlj
    refine ⟨hh, e1, e2.mono (Nat.le_refl _) (fun _ _ _ => rfl) (fun _ _ => rfl) (fun _ h => .inl h) (Keep.refl ρ), fun b hb => ⟨(e3 b hb).1, fun q2 => q2.elim (e3 b hb).2 fun q3 => e (E.inj j i oj o hh h b q hi hlj hl e1 hρ hb q3)⟩⟩
/-- A draw. -/
theorem Env.drew (E : Env F ρ H w) : Env F ρ H w.drew :=
  ⟨E.fb, E.abs, fun i o hi hl => by
    obtain ⟨h, e1, e2, e3⟩ := E.rep i o hi hl
    exact ⟨h, e1, e2.mono (w' := w.drew) (Nat.le_refl _) (fun _ _ _ => rfl) (fun _ _ => rfl) (fun _ h => h) (Keep.refl ρ), e3⟩, E.inj⟩
theorem Step.drew (F : Nat → Prop) (ρ : Nat → Option Value) (H : Hp) (w : World) : Step F ρ H w F ρ H w.drew :=
  ⟨rfl, rfl, rfl, Nat.le_refl _, fun _ _ _ => rfl, fun _ h => h, fun _ h => .inl h, fun _ h => .inr h⟩
end
end Go.Proofs.Ytgidaifoiljgoaa
