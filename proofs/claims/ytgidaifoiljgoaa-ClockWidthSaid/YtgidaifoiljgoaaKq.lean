/- Plain laws of a clock's interval. -/
import Derived.Test.YtgidaifoiljgoaaKh
namespace Go.Proofs.Ytgidaifoiljgoaa
set_option linter.unusedSimpArgs false
set_option linter.unusedVariables false
open Go.RowKit
theorem keep_mem {l : List Smp} {x y : Smp} (h : y ∈ keepC (l ++ [x])) : y ∈ l ∨ y = x := by
  have : y ∈ l ++ [x] := by
    unfold keepC at h
    split at h
    · exact List.mem_of_mem_drop h
    · exact h
  simpa using this
theorem addC_okS (s : CSt) (x : Smp) (h : ∀ y ∈ s.list, okS y = true) : ∀ y ∈ (addC s x).1.list, okS y = true := by
  unfold addC
  by_cases hx : okS x = false
  · rw [if_pos hx]; exact h
  · rw [if_neg hx]
    have hx : okS x = true := by simpa using hx
    intro y hy
    simp only at hy
    split at hy
    · rcases keep_mem hy with q | q
      · exact h y q
      · subst q; exact hx
    · simp only at hy
      split at hy
      · simp at hy; subst hy; exact hx
      · simp at hy
theorem atR_code {s : Smp} {a rho : Int} (h : okS s = true) (h0 : (atR s a rho).2 ≠ 0) : (atR s a rho).2 = 13 ∨ (atR s a rho).2 = 11 := by
  unfold atR at h0 ⊢
  rw [if_neg (by simp [h])] at h0 ⊢
  split
  · exact .inr rfl
  · split
    · exact .inl rfl
    · rename_i h1 h2; rw [if_neg h1, if_neg h2] at h0; exact absurd rfl h0
theorem atC_bad {s : CSt} {stamp : Int} {k : Nat} {x : Smp} (hok : ∀ y ∈ s.list, okS y = true) (hf : (s.list.take k).find? (fun x => decide ((atR x stamp s.rho).2 ≠ 0)) = none) (hx : s.list[k]? = some x) (h0 : (atR x stamp s.rho).2 ≠ 0) :
    (atC s stamp).2 = 13 ∨ (atC s stamp).2 = 11 := by
  have hne : s.list ≠ [] := fun e => by rw [e] at hx; simp at hx
  unfold atC
  rw [if_neg hne]
  by_cases ht : isT stamp = false
  · rw [if_pos ht]; exact .inr rfl
  · rw [if_neg ht, find_hit hf hx (by simpa using h0)]
    exact atR_code (hok x (List.mem_of_getElem? hx)) h0
theorem atC_good {s : CSt} {stamp : Int} (hne : s.list ≠ []) (hf : s.list.find? (fun x => decide ((atR x stamp s.rho).2 ≠ 0)) = none) : atC s stamp = meetR (s.list.map fun x => (atR x stamp s.rho).1) := by
  unfold atC
  rw [if_neg hne]
  by_cases ht : isT stamp = false
  · exfalso
    cases hl : s.list with
    | nil => exact hne hl
    | cons x r =>
      rw [hl] at hf
      have := List.find?_eq_none.1 hf x (List.mem_cons_self ..)
      simp at this
      have := (atR_out this).2.1
      rw [ht] at this; cases this
  · rw [if_neg ht, hf]
theorem meetL_snoc (a : Int × Int) (gs : List (Int × Int)) (x : Int × Int) : meetL a (gs ++ [x]) = (max (meetL a gs).1 x.1, min (meetL a gs).2 x.2) := by
  unfold meetL; rw [List.foldl_append]; rfl
theorem meetR_ok {gs : List (Int × Int)} (h : (meetR gs).2 = 0) : gs.all okG = true ∧ okG (meetL allG gs) = true ∧ (meetR gs).1 = meetL allG gs := by
  unfold meetR foldR at h ⊢
  by_cases h1 : gs.all okG = false
  · rw [if_pos h1] at h; cases h
  · rw [if_neg h1] at h ⊢
    by_cases h2 : okG (meetL allG gs) = true
    · rw [if_pos h2]; exact ⟨by simpa using h1, h2, rfl⟩
    · rw [if_neg h2] at h; cases h
def withB (g o : Int × Int) : Bool := okG g && decide (o.1 ≤ g.1) && decide (g.2 ≤ o.2)
theorem within_snoc {gs : List (Int × Int)} {x : Int × Int} (h : (meetR gs).2 = 0) (h' : (meetR (gs ++ [x])).2 = 0) : withB (meetR (gs ++ [x])).1 (meetR gs).1 = true := by
  obtain ⟨_, _, e1⟩ := meetR_ok h
  obtain ⟨_, h2, e2⟩ := meetR_ok h'
  unfold withB
  rw [e2, h2, e1, meetL_snoc]
  simp
  constructor <;> omega
theorem atC_zero {s : CSt} {stamp : Int} (h : (atC s stamp).2 = 0) : s.list ≠ [] ∧ isT stamp = true ∧ s.list.find? (fun x => decide ((atR x stamp s.rho).2 ≠ 0)) = none ∧ atC s stamp = meetR (s.list.map fun x => (atR x stamp s.rho).1) := by
  unfold atC at h ⊢
  by_cases h1 : s.list = []
  · rw [if_pos h1] at h; cases h
  · rw [if_neg h1] at h ⊢
    by_cases h2 : isT stamp = false
    · rw [if_pos h2] at h; cases h
    · rw [if_neg h2] at h ⊢
      cases hf : s.list.find? (fun x => decide ((atR x stamp s.rho).2 ≠ 0)) with
      | some x =>
        rw [hf] at h
        have := List.find?_some hf
        simp at this
        exact absurd h this
      | none => exact ⟨h1, by simpa using h2, rfl, rfl⟩
theorem meets_last {s : CSt} {x : Smp} {stamp : Int} (h : (atC s stamp).2 = 0) (ha : (addC s x).2 = 0) (hi : (atC (addC s x).1 stamp).2 = 0) (h8 : s.list.length ≤ 8) (hn : s.list.length ≠ 8) : withB (atC (addC s x).1 stamp).1 (atC s stamp).1 = true := by
  obtain ⟨_, _, _, e1⟩ := atC_zero h
  obtain ⟨_, _, _, e2⟩ := atC_zero hi
  have hl : (addC s x).1.list = s.list ++ [x] ∧ (addC s x).1.rho = s.rho := by
    unfold addC at ha ⊢
    by_cases hx : okS x = false
    · rw [if_pos hx] at ha; cases ha
    · rw [if_neg hx] at ha ⊢
      simp only at ha ⊢
      split
      · refine ⟨?_, rfl⟩
        show keepC (s.list ++ [x]) = _
        unfold keepC
        rw [if_neg (by simp; omega)]
      · rename_i hg; rw [if_neg hg] at ha; cases ha
  rw [e1] at h ⊢
  rw [e2] at hi ⊢
  rw [hl.1, hl.2, List.map_append] at hi ⊢
  exact within_snoc h hi
end Go.Proofs.Ytgidaifoiljgoaa
