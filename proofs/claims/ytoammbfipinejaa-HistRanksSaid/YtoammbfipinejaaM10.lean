/- Parts Hr, HistG, CodeF, HistH, Hk, Hf of the proof, put together. -/
import Derived.Test.YtoammbfipinejaaM9
import Derived.RangeFuncNested
import Derived.RangeFuncBound
import Derived.RangeFuncCalls
import Derived.RangeFuncLeaves
import Derived.Shelf.Abstract
import Derived.Shelf.RegionOpen
import Derived.OwnWalkIn
import Derived.TacticsInMore
import Derived.LoopNIn
import Derived.LoopIn
import Derived.Outline
import Derived.RangeFuncFrom
import Derived.TacticsIn
import Derived.OrdersIn
/- The document's histograms: Of, right, Merge, Rank. -/
namespace Go.Proofs.Ytoammbfipinejaa
set_option linter.unusedSimpArgs false
set_option linter.unusedVariables false
open Go.RowKit
set_option maxRecDepth 100000
theorem refBucket_sat (v : Int) (h : in64 v) : Sat Try.prog 53 [iA v] [] (iA (bkt v)) [] :=
  .of_same (.cons (.d (.v _)) .nil) (.d (.v _)) fun w => refBucket_any v w h.1 h.2
theorem hR_len (l : List Int) : (hR l).length = l.length := List.length_map _
theorem drop_row {l : List Int} {k : Nat} {x : Int} (hx : l[k]? = some x) : (hR l).drop (0 + k * 1) = iD x :: (hR l).drop (k + 1) := by
  obtain ⟨hk, rfl⟩ := List.getElem?_eq_some_iff.1 hx
  rw [Nat.zero_add, Nat.mul_one, List.drop_eq_getElem_cons (by rw [hR_len]; exact hk)]
  simp [hR]
theorem all_take {p : Int → Bool} {l : List Int} {k : Nat} {x : Int} (hx : l[k]? = some x) : (l.take (k + 1)).all p = ((l.take k).all p && p x) := all_take_succ hx
theorem refRight_sat (l : List Int) (hl : l.length = 65) : Sat Try.prog 74 [.d (hD l)] [] (bA (okH l)) [] := by
  refine sat_of_vc (T := tiOf Try.prog) (E := E0) Try.func74 rfl rfl hE0 hm0 rfl ?_
  conv => whnf
  repeat (any_goals (first
    | exact True.intro
    | (refine Or.inl ?_; conv => whnf)
    | (refine And.intro (fun _ => ?_) tf; conv => whnf)
    | (refine And.intro ft (fun _ => ?_); conv => whnf)
    | (refine And.intro (by kernel_rfl) ?_; conv => whnf)
    | (refine And.intro (by decide) ?_; conv => whnf)
    | (refine And.intro (fun _ => ?_) (fun h => absurd h (by decide)); conv => whnf)
    | (refine And.intro (fun h => absurd h (by decide)) (fun _ => ?_); conv => whnf)
    | (refine And.intro (fun _ => ?_) (fun _ => ?_) <;> conv => whnf)))
  refine ⟨Nat, fun k => k ≤ 65 ∧ okH (l.take k) = true, fun k => ([(3, iA k), (1, .ptr 0 0)], [.row (hR l)]), fun k => 65 - k, ⟨0, ⟨by omega, rfl⟩, ?_⟩, ?_⟩
  · all_goals refine ⟨[], ?_⟩
    repeat (any_goals (first | exact True.intro | exact rfl | with_reducible_and_instances rfl | exact (by kernel_rfl) | refine And.intro ?_ ?_))
    all_goals conv => whnf
  rintro k ⟨hk, ho⟩
  conv => whnf
  by_cases hlt : k < 65
  · have hx : l[k]? = some l[k] := List.getElem?_eq_getElem (by omega)
    generalize l[k] = x at hx
    have ha : okH (l.take (k + 1)) = decide (0 ≤ x) := by unfold okH at *; rw [all_take hx, ho, Bool.true_and]
    repeat (any_goals (first
      | exact True.intro
      | (refine ⟨k, rfl, hlt, ?_⟩; conv => whnf)
      | (refine ⟨_, rfl, _, _, drop_row hx, ?_⟩; conv => whnf)
      | (refine Or.inl ?_; conv => whnf)
      | (refine And.intro (fun _ => ?_) tf; conv => whnf)
      | (refine And.intro ft (fun _ => ?_); conv => whnf)
      | (refine And.intro (by kernel_rfl) ?_; conv => whnf)
      | (refine And.intro (by decide) ?_; conv => whnf)
      | (refine And.intro (fun _ => ?_) (fun h => absurd h (by decide)); conv => whnf)
      | (refine And.intro (fun h => absurd h (by decide)) (fun _ => ?_); conv => whnf)
      | (refine And.intro (fun _ => ?_) (fun _ => ?_) <;> conv => whnf)))
    all_goals try (exfalso; simp only [decide_eq_true_eq, decide_eq_false_iff_not, Bool.not_eq_true', Bool.not_eq_false', Bool.not_eq_true, Bool.not_eq_false, beq_iff_eq, bne_iff_ne, beq_eq_false_iff_ne, bne_eq_false_iff_eq, ne_eq, Decidable.not_not] at *; first | omega | contradiction | (simp_all; done) | (simp_all; omega))
    · have hr : okH l = false := by
        have h0 : x < 0 := (by (try simp only [decide_eq_true_eq, decide_eq_false_iff_not, Bool.not_eq_true', Bool.not_eq_false', Bool.not_eq_true, Bool.not_eq_false, beq_iff_eq, bne_iff_ne, beq_eq_false_iff_ne, bne_eq_false_iff_eq, ne_eq, Decidable.not_not, Int.natCast_eq_zero] at *); first | omega | assumption | (simp_all; done) | (simp_all; omega))
        rw [← List.take_append_drop (k + 1) l]
        unfold okH at *
        rw [List.all_append, ha, decide_eq_false (by omega)]; rfl
      rw [hr]
      all_goals refine ⟨[], ?_⟩
      repeat (any_goals (first | exact True.intro | exact rfl | with_reducible_and_instances rfl | exact (by kernel_rfl) | refine And.intro ?_ ?_))
      all_goals conv => whnf
    · have h0 : ¬ x < 0 := (by (try simp only [decide_eq_true_eq, decide_eq_false_iff_not, Bool.not_eq_true', Bool.not_eq_false', Bool.not_eq_true, Bool.not_eq_false, beq_iff_eq, bne_iff_ne, beq_eq_false_iff_ne, bne_eq_false_iff_eq, ne_eq, Decidable.not_not, Int.natCast_eq_zero] at *); first | omega | assumption | (simp_all; done) | (simp_all; omega))
      refine ⟨k + 1, ⟨hlt, by rw [ha]; exact decide_eq_true (by omega)⟩, show 65 - (k + 1) < 65 - k by omega, ?_⟩
      all_goals refine ⟨[], ?_⟩
      repeat (any_goals (first | exact True.intro | exact rfl | with_reducible_and_instances rfl | exact (by kernel_rfl) | refine And.intro ?_ ?_))
      all_goals conv => whnf
      exact wk1 (by omega)
  · have hke : k = 65 := by omega
    subst hke
    rw [List.take_of_length_le (by omega)] at ho
    rw [ho]
    repeat (any_goals (first
      | exact True.intro
      | (refine Or.inl ?_; conv => whnf)
      | (refine And.intro (fun _ => ?_) tf; conv => whnf)
      | (refine And.intro ft (fun _ => ?_); conv => whnf)
      | (refine And.intro (by kernel_rfl) ?_; conv => whnf)
      | (refine And.intro (by decide) ?_; conv => whnf)
      | (refine And.intro (fun _ => ?_) (fun h => absurd h (by decide)); conv => whnf)
      | (refine And.intro (fun h => absurd h (by decide)) (fun _ => ?_); conv => whnf)
      | (refine And.intro (fun _ => ?_) (fun _ => ?_) <;> conv => whnf)))
    all_goals try (exfalso; simp only [decide_eq_true_eq, decide_eq_false_iff_not, Bool.not_eq_true', Bool.not_eq_false', Bool.not_eq_true, Bool.not_eq_false, beq_iff_eq, bne_iff_ne, beq_eq_false_iff_ne, bne_eq_false_iff_eq, ne_eq, Decidable.not_not] at *; first | omega | contradiction | (simp_all; done) | (simp_all; omega))
    all_goals refine ⟨[], ?_⟩
    repeat (any_goals (first | exact True.intro | exact rfl | with_reducible_and_instances rfl | exact (by kernel_rfl) | refine And.intro ?_ ?_))
    all_goals conv => whnf
theorem sets_row {l : List Int} {k : Nat} (x : Int) (hk : k < l.length) : sets (hR l) (0 + k * 1) [iD x] = hR (l.set k x) := by
  rw [Nat.zero_add, Nat.mul_one]
  show (hR l).set k (iD x) = _
  unfold hR
  rw [List.map_set]
theorem s68 : (tiOf Try.prog 68).size = 65 := by kernel_rfl
theorem whole_row {s : Nat} {h : List Int} (hs : s = 65) (hl : h.length = 65) : ((hR h).drop 0).take s = hR h := by
  rw [List.drop_zero, List.take_of_length_le (by rw [hR_len]; omega)]
theorem whole_len {s : Nat} {h : List Int} (hs : s = 65) (hl : h.length = 65) : (hR h).length = s := by rw [hR_len]; omega
theorem rows_whole {l h : List Int} (hl : l.length = 65) (hh : h.length = 65) : sets (hR l) 0 (hR h) = hR h := by
  rw [sets_eq _ _ _ (by rw [hR_len, hR_len]; omega), List.drop_of_length_le (by rw [hR_len, hR_len]; omega)]
  simp
theorem sets_fit {l h : List Int} (hl : l.length = 65) (hh : h.length = 65) : 0 + (hR h).length ≤ (hR l).length := by rw [hR_len, hR_len]; omega
theorem z65_len : z65.length = 65 := rfl
theorem histL_small (l : List Int) {b : Nat} {y : Int} (h : (histL l)[b]? = some y) : 0 ≤ y ∧ y ≤ l.length := histL_mem l y (List.mem_of_getElem? h)
theorem histL_succ {l : List Int} {k : Nat} {x : Int} (hx : l[k]? = some x) : histL (l.take (k + 1)) = bump (histL (l.take k)) (bkt x) := by
  rw [List.take_add_one, hx]; exact histL_snoc _ _
theorem refOf_sat (l : List Int) (hl : ∀ z ∈ l, in64 z) (hn : l.length ≤ 1000000) : Sat Try.prog 42 [.d (lD l)] [] (.d (hD (histL l))) [] := by
  have hm : (l.map lR).length = l.length := List.length_map _
  refine sat_of_vc (T := tiOf Try.prog) (E := E0) Try.func42 rfl rfl hE0 hm0 rfl ?_
  conv => whnf
  repeat (any_goals (first
    | exact True.intro
    | (refine ⟨hR z65, by kernel_rfl, ?_⟩; conv => whnf)
    | (refine And.intro (by decide +kernel) ?_; conv => whnf)
    | (refine Or.inl ?_; conv => whnf)
    | (refine And.intro (fun _ => ?_) tf; conv => whnf)
    | (refine And.intro ft (fun _ => ?_); conv => whnf)
    | (refine And.intro (by kernel_rfl) ?_; conv => whnf)
    | (refine And.intro (by decide) ?_; conv => whnf)
    | (refine And.intro (fun _ => ?_) (fun h => absurd h (by decide)); conv => whnf)
    | (refine And.intro (fun h => absurd h (by decide)) (fun _ => ?_); conv => whnf)
    | (refine And.intro (fun _ => ?_) (fun _ => ?_) <;> conv => whnf)))
  refine ⟨Nat × List Int, fun y => y.1 ≤ l.length ∧ y.2 = histL (l.take y.1), fun y => ([(4, iA y.1), (3, .ptr 1 0), (2, .ptr 0 0), (0, .d (lD l))], [.row (hR z65), .row (hR y.2)]), fun y => l.length - y.1, ⟨(0, z65), ⟨Nat.zero_le _, rfl⟩, ?_⟩, ?_⟩
  · all_goals refine ⟨[], ?_⟩
    repeat (any_goals (first | exact True.intro | exact rfl | with_reducible_and_instances rfl | exact (by kernel_rfl) | refine And.intro ?_ ?_))
    all_goals conv => whnf
  rintro ⟨k, h⟩ ⟨(hk : k ≤ l.length), (hh : h = histL (l.take k))⟩
  have h65 : h.length = 65 := by rw [hh]; exact histL_len _
  conv => whnf
  by_cases hlt : k < l.length
  · have hx : l[k]? = some l[k] := List.getElem?_eq_getElem hlt
    have hz := hl _ (List.mem_of_getElem? hx)
    generalize l[k] = x at hx hz
    have hb := bkt_lt x hz.2
    have b1 := refBucket_sat x hz
    have hy : h[bkt x]? = some h[bkt x] := List.getElem?_eq_getElem (by omega)
    have hs := histL_succ hx
    rw [← hh] at hs
    have hsm : 0 ≤ h[bkt x] ∧ h[bkt x] ≤ (l.take k).length := histL_small (l.take k) (b := bkt x) (by rw [← hh]; exact hy)
    rw [List.length_take] at hsm
    have hbu : bump h (bkt x) = h.set (bkt x) (h[bkt x] + 1) := by unfold bump; rw [hy]; rfl
    generalize h[bkt x] = y at hy hsm hbu
    have hw : IntKind.i64.wrap (y + 1) = y + 1 := wi (by omega) (by omega)
    have hst : 0 + bkt x * 1 + 1 ≤ (hR h).length := by rw [hR_len]; omega
    have hse := sets_row (l := h) (k := bkt x) (y + 1) (by omega)
    rw [← hbu, ← hs] at hse
    rw [← hw] at hse
    repeat (any_goals (first
      | exact True.intro
      | (refine ⟨k, _, rfl, map_get hx, ?_⟩; conv => whnf)
      | (refine ⟨bkt x, rfl, hb, ?_⟩; conv => whnf)
      | (refine ⟨_, rfl, _, _, drop_row hy, ?_⟩; conv => whnf)
      | (refine And.intro hst ?_; conv => whnf)
      | (refine ⟨_, hse, ?_⟩; conv => whnf)
      | (refine Or.inl ?_; conv => whnf)
      | (refine And.intro (fun _ => ?_) tf; conv => whnf)
      | (refine And.intro ft (fun _ => ?_); conv => whnf)
      | (refine And.intro (by kernel_rfl) ?_; conv => whnf)
      | (refine And.intro (by decide) ?_; conv => whnf)
      | (refine And.intro (fun _ => ?_) (fun h => absurd h (by decide)); conv => whnf)
      | (refine And.intro (fun h => absurd h (by decide)) (fun _ => ?_); conv => whnf)
      | (refine And.intro (fun _ => ?_) (fun _ => ?_) <;> conv => whnf)
      | (refine ⟨_, _, b1.pu rfl rfl, ?_⟩; conv => whnf)))
    all_goals try (exfalso; simp only [decide_eq_true_eq, decide_eq_false_iff_not, Bool.not_eq_true', Bool.not_eq_false', Bool.not_eq_true, Bool.not_eq_false, beq_iff_eq, bne_iff_ne, beq_eq_false_iff_ne, bne_eq_false_iff_eq, ne_eq, Decidable.not_not] at *; first | omega | contradiction | (simp_all; done) | (simp_all; omega))
    refine ⟨(k + 1, histL (l.take (k + 1))), ⟨hlt, rfl⟩, show l.length - (k + 1) < l.length - k by omega, ?_⟩
    all_goals refine ⟨[], ?_⟩
    repeat (any_goals (first | exact True.intro | exact rfl | with_reducible_and_instances rfl | exact (by kernel_rfl) | refine And.intro ?_ ?_))
    all_goals conv => whnf
    exact wk1 (show k ≤ _ by omega)
  · have hke : k = l.length := by omega
    subst hke
    rw [List.take_length] at hh
    subst hh
    repeat (any_goals (first
      | exact True.intro
      | (refine And.intro (whole_len s68 h65) ?_; conv => whnf)
      | (refine ⟨_, whole_row s68 h65, whole_len s68 h65, ?_⟩; conv => whnf)
      | (refine And.intro (sets_fit z65_len h65) ?_; conv => whnf)
      | (refine ⟨_, rows_whole z65_len h65, ?_⟩; conv => whnf)
      | (refine ⟨_, rfl, ?_⟩; conv => whnf)
      | (refine Or.inl ?_; conv => whnf)
      | (refine And.intro (fun _ => ?_) tf; conv => whnf)
      | (refine And.intro ft (fun _ => ?_); conv => whnf)
      | (refine And.intro (by kernel_rfl) ?_; conv => whnf)
      | (refine And.intro (by decide) ?_; conv => whnf)
      | (refine And.intro (fun _ => ?_) (fun h => absurd h (by decide)); conv => whnf)
      | (refine And.intro (fun h => absurd h (by decide)) (fun _ => ?_); conv => whnf)
      | (refine And.intro (fun _ => ?_) (fun _ => ?_) <;> conv => whnf)))
    all_goals try (exfalso; simp only [decide_eq_true_eq, decide_eq_false_iff_not, Bool.not_eq_true', Bool.not_eq_false', Bool.not_eq_true, Bool.not_eq_false, beq_iff_eq, bne_iff_ne, beq_eq_false_iff_ne, bne_eq_false_iff_eq, ne_eq, Decidable.not_not] at *; first | omega | contradiction | (simp_all; done) | (simp_all; omega))
    all_goals refine ⟨[], ?_⟩
    repeat (any_goals (first | exact True.intro | exact rfl | with_reducible_and_instances rfl | exact (by kernel_rfl) | refine And.intro ?_ ?_))
    all_goals conv => whnf
def col (ls : List (List Int)) (k : Nat) : List Int := ls.map fun l => l[k]?.getD 0
theorem col_sum (ls : List (List Int)) (k : Nat) : (col ls k).sum = sumAt ls k := rfl
theorem col_succ {ls : List (List Int)} {i k : Nat} {l : List Int} (h : ls[i]? = some l) : col (ls.take (i + 1)) k = col (ls.take i) k ++ [l[k]?.getD 0] := by
  unfold col; rw [List.take_add_one, h]; simp
def partL (ls : List (List Int)) (k : Nat) : List Int := (List.range 65).map fun j => if j < k then sumAt ls j else 0
theorem partL_len (ls : List (List Int)) (k : Nat) : (partL ls k).length = 65 := by simp [partL]
theorem partL_set (ls : List (List Int)) {k : Nat} (hk : k < 65) : (partL ls k).set k (sumAt ls k) = partL ls (k + 1) := by
  apply List.ext_getElem?
  intro j
  unfold partL
  rw [List.getElem?_set]
  by_cases hj : j < 65
  · simp only [List.length_map, List.length_range, List.getElem?_map, List.getElem?_range hj, Option.map_some]
    by_cases e : k = j
    · subst e; simp [hk]
    · simp only [e, if_false]
      congr 1
      by_cases h : j < k
      · rw [if_pos h, if_pos (by omega)]
      · rw [if_neg h, if_neg (by omega)]
  · have : k ≠ j := by omega
    rw [if_neg this, List.getElem?_eq_none (by simp; omega), List.getElem?_eq_none (by simp; omega)]
theorem partL_zero (ls : List (List Int)) : partL ls 0 = z65 := by
  unfold partL z65
  apply List.ext_getElem?
  intro j
  rw [List.getElem?_map, List.getElem?_replicate]
  by_cases hj : j < 65
  · rw [List.getElem?_range hj]; simp [hj]
  · rw [List.getElem?_eq_none (by simp; omega)]; simp [hj]
theorem partL_all (ls : List (List Int)) : partL ls 65 = mergeL ls := by
  unfold partL mergeL
  apply List.map_congr_left
  intro j hj
  rw [if_pos (List.mem_range.1 hj)]
theorem hR_take {s : Nat} {h : List Int} (hs : s = 65) (hl : h.length = 65) : (hR h).take s = hR h := List.take_of_length_le (by rw [hR_len]; omega)
theorem merge_form {ls : List (List Int)} (h : ls.all okH = false) : mergeE ls = 10 ∧ mergeR ls = z65 := by
  have : mergeE ls = 10 := by unfold mergeE; rw [if_pos h]
  exact ⟨this, by unfold mergeR; rw [this]; rfl⟩
theorem merge_over {ls : List (List Int)} (h : ls.all okH = true) {k : Nat} (hk : k < 65) (hs : 9223372036854775807 < sumAt ls k) : mergeE ls = 12 ∧ mergeR ls = z65 := by
  have : mergeE ls = 12 := by
    unfold mergeE
    rw [if_neg (by simp [h]), if_pos (List.any_eq_true.2 ⟨k, List.mem_range.2 hk, decide_eq_true hs⟩)]
  exact ⟨this, by unfold mergeR; rw [this]; rfl⟩
theorem merge_fine {ls : List (List Int)} (h : ls.all okH = true) (hs : ∀ k, k < 65 → sumAt ls k ≤ 9223372036854775807) : mergeE ls = 0 ∧ mergeR ls = mergeL ls := by
  have : mergeE ls = 0 := by
    unfold mergeE
    rw [if_neg (by simp [h]), if_neg]
    intro q
    obtain ⟨k, h1, h2⟩ := List.any_eq_true.1 q
    have := hs k (List.mem_range.1 h1)
    have := of_decide_eq_true h2
    omega
  exact ⟨this, by unfold mergeR; rw [this]; rfl⟩
set_option maxHeartbeats 400000 in
theorem refMerge_sat (ls : List (List Int)) (hl : ∀ l ∈ ls, l.length = 65) (hx : ∀ l ∈ ls, ∀ z ∈ l, in64 z) (hn : ls.length ≤ 1000) : Sat Try.prog 41 [.d (.sl 65 (ls.map hR))] [] (.tup [.d (hD (mergeR ls)), iA (mergeE ls)]) [] := by
  have hm : (ls.map hR).length = ls.length := List.length_map _
  refine sat_of_vc (T := tiOf Try.prog) (E := E0) Try.func41 rfl rfl hE0 hm0 rfl ?_
  conv => whnf
  repeat (any_goals (first
    | exact True.intro
    | (refine ⟨hR z65, by kernel_rfl, ?_⟩; conv => whnf)
    | (refine And.intro (by decide +kernel) ?_; conv => whnf)
    | (refine And.intro (fun _ => ?_) tf; conv => whnf)
    | (refine And.intro ft (fun _ => ?_); conv => whnf)
    | (refine And.intro (by kernel_rfl) ?_; conv => whnf)
    | (refine And.intro (by decide) ?_; conv => whnf)
    | (refine And.intro (fun _ => ?_) (fun h => absurd h (by decide)); conv => whnf)
    | (refine And.intro (fun h => absurd h (by decide)) (fun _ => ?_); conv => whnf)
    | (refine And.intro (fun _ => ?_) (fun _ => ?_) <;> conv => whnf)))
  all_goals try (refine Or.inl ?_; conv => whnf)
  repeat (any_goals (first
    | exact True.intro
    | (refine ⟨hR z65, by kernel_rfl, ?_⟩; conv => whnf)
    | (refine And.intro (by decide +kernel) ?_; conv => whnf)
    | (refine And.intro (fun _ => ?_) tf; conv => whnf)
    | (refine And.intro ft (fun _ => ?_); conv => whnf)
    | (refine And.intro (by kernel_rfl) ?_; conv => whnf)
    | (refine And.intro (by decide) ?_; conv => whnf)
    | (refine And.intro (fun _ => ?_) (fun h => absurd h (by decide)); conv => whnf)
    | (refine And.intro (fun h => absurd h (by decide)) (fun _ => ?_); conv => whnf)
    | (refine And.intro (fun _ => ?_) (fun _ => ?_) <;> conv => whnf)))
  refine ⟨Nat, fun i => i ≤ ls.length ∧ (ls.take i).all okH = true, fun i => ([(5, iA i), (4, .ptr 1 0), (3, iA 0), (2, .ptr 0 0), (0, .d (.sl 65 (ls.map hR)))], [.row (hR z65), .row (hR z65)]), fun i => ls.length - i, ⟨0, ⟨Nat.zero_le _, rfl⟩, ?_⟩, ?_⟩
  · all_goals refine ⟨[], ?_⟩
    repeat (any_goals (first | exact True.intro | exact rfl | with_reducible_and_instances rfl | exact (by kernel_rfl) | refine And.intro ?_ ?_))
    all_goals conv => whnf
  rintro i ⟨hi, hok⟩
  conv => whnf
  by_cases hlt : i < ls.length
  · have hx1 : ls[i]? = some ls[i] := List.getElem?_eq_getElem hlt
    have hl1 := hl _ (List.mem_of_getElem? hx1)
    generalize ls[i] = l at hx1 hl1
    have r1 := refRight_sat l hl1
    have ha : (ls.take (i + 1)).all okH = okH l := by rw [List.take_add_one, hx1, List.all_append, hok]; simp
    repeat (any_goals (first
      | exact True.intro
      | (refine And.intro (whole_len s68 hl1) ?_; conv => whnf)
      | (refine ⟨i, _, rfl, map_get hx1, ?_⟩; conv => whnf)
      | (refine ⟨_, hR_take s68 hl1, whole_len s68 hl1, ?_⟩; conv => whnf)
      | (refine ⟨hR z65, by kernel_rfl, ?_⟩; conv => whnf)
      | (refine And.intro (sets_fit z65_len z65_len) ?_; conv => whnf)
      | (refine ⟨_, rows_whole z65_len z65_len, ?_⟩; conv => whnf)
      | (refine Or.inl ?_; conv => whnf)
      | (refine And.intro (fun _ => ?_) tf; conv => whnf)
      | (refine And.intro ft (fun _ => ?_); conv => whnf)
      | (refine And.intro (by kernel_rfl) ?_; conv => whnf)
      | (refine And.intro (by decide) ?_; conv => whnf)
      | (refine And.intro (fun _ => ?_) (fun h => absurd h (by decide)); conv => whnf)
      | (refine And.intro (fun h => absurd h (by decide)) (fun _ => ?_); conv => whnf)
      | (refine And.intro (fun _ => ?_) (fun _ => ?_) <;> conv => whnf)
      | (refine ⟨_, _, r1.pu rfl rfl, ?_⟩; conv => whnf)))
    all_goals try (exfalso; simp only [decide_eq_true_eq, decide_eq_false_iff_not, Bool.not_eq_true', Bool.not_eq_false', Bool.not_eq_true, Bool.not_eq_false, beq_iff_eq, bne_iff_ne, beq_eq_false_iff_ne, bne_eq_false_iff_eq, ne_eq, Decidable.not_not] at *; first | omega | contradiction | (simp_all; done) | (simp_all; omega))
    · have ho : okH l = false := by cases h : okH l <;> simp_all
      obtain ⟨e1, e2⟩ := merge_form (ls := ls) (by
        rw [← List.take_append_drop (i + 1) ls, List.all_append, ha, ho]; rfl)
      rw [e1, e2]
      all_goals refine ⟨[], ?_⟩
      repeat (any_goals (first | exact True.intro | exact rfl | with_reducible_and_instances rfl | exact (by kernel_rfl) | refine And.intro ?_ ?_))
      all_goals conv => whnf
    · have ho : okH l = true := by cases h : okH l <;> simp_all
      refine ⟨i + 1, ⟨hlt, by rw [ha]; exact ho⟩, show ls.length - (i + 1) < ls.length - i by omega, ?_⟩
      all_goals refine ⟨[], ?_⟩
      repeat (any_goals (first | exact True.intro | exact rfl | with_reducible_and_instances rfl | exact (by kernel_rfl) | refine And.intro ?_ ?_))
      all_goals conv => whnf
      exact wk1 (by omega)
  · have hie : i = ls.length := by omega
    subst hie
    rw [List.take_length] at hok
    repeat (any_goals (first
      | exact True.intro
      | (refine And.intro (fun _ => ?_) tf; conv => whnf)
      | (refine And.intro ft (fun _ => ?_); conv => whnf)
      | (refine And.intro (by kernel_rfl) ?_; conv => whnf)
      | (refine And.intro (by decide) ?_; conv => whnf)
      | (refine And.intro (fun _ => ?_) (fun h => absurd h (by decide)); conv => whnf)
      | (refine And.intro (fun h => absurd h (by decide)) (fun _ => ?_); conv => whnf)
      | (refine And.intro (fun _ => ?_) (fun _ => ?_) <;> conv => whnf)))
    all_goals try (refine Or.inl ?_; conv => whnf)
    repeat (any_goals (first
      | exact True.intro
      | (refine And.intro (fun _ => ?_) tf; conv => whnf)
      | (refine And.intro ft (fun _ => ?_); conv => whnf)
      | (refine And.intro (by kernel_rfl) ?_; conv => whnf)
      | (refine And.intro (by decide) ?_; conv => whnf)
      | (refine And.intro (fun _ => ?_) (fun h => absurd h (by decide)); conv => whnf)
      | (refine And.intro (fun h => absurd h (by decide)) (fun _ => ?_); conv => whnf)
      | (refine And.intro (fun _ => ?_) (fun _ => ?_) <;> conv => whnf)))
    all_goals try (exfalso; simp only [decide_eq_true_eq, decide_eq_false_iff_not, Bool.not_eq_true', Bool.not_eq_false', Bool.not_eq_true, Bool.not_eq_false, beq_iff_eq, bne_iff_ne, beq_eq_false_iff_ne, bne_eq_false_iff_eq, ne_eq, Decidable.not_not] at *; first | omega | contradiction | (simp_all; done) | (simp_all; omega))
    all_goals try (refine Or.inl ?_; conv => whnf)
    repeat (any_goals (first
      | exact True.intro
      | (refine And.intro (fun _ => ?_) tf; conv => whnf)
      | (refine And.intro ft (fun _ => ?_); conv => whnf)
      | (refine And.intro (by kernel_rfl) ?_; conv => whnf)
      | (refine And.intro (by decide) ?_; conv => whnf)
      | (refine And.intro (fun _ => ?_) (fun h => absurd h (by decide)); conv => whnf)
      | (refine And.intro (fun h => absurd h (by decide)) (fun _ => ?_); conv => whnf)
      | (refine And.intro (fun _ => ?_) (fun _ => ?_) <;> conv => whnf)))
    all_goals try (refine Or.inl ?_; conv => whnf)
    repeat (any_goals (first
      | exact True.intro
      | (refine And.intro (fun _ => ?_) tf; conv => whnf)
      | (refine And.intro ft (fun _ => ?_); conv => whnf)
      | (refine And.intro (by kernel_rfl) ?_; conv => whnf)
      | (refine And.intro (by decide) ?_; conv => whnf)
      | (refine And.intro (fun _ => ?_) (fun h => absurd h (by decide)); conv => whnf)
      | (refine And.intro (fun h => absurd h (by decide)) (fun _ => ?_); conv => whnf)
      | (refine And.intro (fun _ => ?_) (fun _ => ?_) <;> conv => whnf)))
    all_goals try (refine Or.inl ?_; conv => whnf)
    repeat (any_goals (first
      | exact True.intro
      | (refine And.intro (fun _ => ?_) tf; conv => whnf)
      | (refine And.intro ft (fun _ => ?_); conv => whnf)
      | (refine And.intro (by kernel_rfl) ?_; conv => whnf)
      | (refine And.intro (by decide) ?_; conv => whnf)
      | (refine And.intro (fun _ => ?_) (fun h => absurd h (by decide)); conv => whnf)
      | (refine And.intro (fun h => absurd h (by decide)) (fun _ => ?_); conv => whnf)
      | (refine And.intro (fun _ => ?_) (fun _ => ?_) <;> conv => whnf)))
    refine ⟨Nat × List Int, fun y => (y.1 ≤ 65 ∧ ∀ j, j < y.1 → sumAt ls j ≤ 9223372036854775807) ∧ y.2 = partL ls y.1, fun y => ([(6, iA y.1), (4, .ptr 1 0), (3, iA 0), (2, .ptr 0 0), (0, .d (.sl 65 (ls.map hR)))], [.row (hR z65), .row (hR y.2)]), fun y => 65 - y.1, ⟨(0, z65), ⟨⟨by omega, fun j (hj : j < 0) => by omega⟩, (partL_zero ls).symm⟩, ?_⟩, ?_⟩
    · all_goals refine ⟨[], ?_⟩
      repeat (any_goals (first | exact True.intro | exact rfl | with_reducible_and_instances rfl | exact (by kernel_rfl) | refine And.intro ?_ ?_))
      all_goals conv => whnf
    rintro ⟨k, p⟩ ⟨⟨(hk : k ≤ 65), (hsm : ∀ j, j < k → sumAt ls j ≤ 9223372036854775807)⟩, (hp : p = partL ls k)⟩
    have p65 : p.length = 65 := by rw [hp]; exact partL_len ls k
    conv => whnf
    by_cases hk6 : k < 65
    · have hcol : ∀ z ∈ col ls k, in64 z := by
        intro z hz
        obtain ⟨l, h1, rfl⟩ := List.mem_map.1 hz
        have h2 := hl l h1
        rw [List.getElem?_eq_getElem (by omega)]
        exact hx l h1 _ (List.getElem_mem _)
      have hcl : (col ls k).length = ls.length := List.length_map _
      have hnn := sumAt_nonneg ls k hok
      have su := sum_num (col ls k) hcol (by omega)
      rw [col_sum] at su
      repeat (any_goals (first
        | exact True.intro
        | (refine And.intro (fun _ => ?_) (fun h => absurd h (by simpa using hk6)); conv => whnf)
        | (refine And.intro (fun _ => ?_) tf; conv => whnf)
        | (refine And.intro ft (fun _ => ?_); conv => whnf)
        | (refine And.intro (by kernel_rfl) ?_; conv => whnf)
        | (refine And.intro (by decide) ?_; conv => whnf)
        | (refine And.intro (fun _ => ?_) (fun h => absurd h (by decide)); conv => whnf)
        | (refine And.intro (fun h => absurd h (by decide)) (fun _ => ?_); conv => whnf)
        | (refine And.intro (fun _ => ?_) (fun _ => ?_) <;> conv => whnf)))
      all_goals try (refine Or.inl ?_; conv => whnf)
      repeat (any_goals (first
        | exact True.intro
        | (refine And.intro (fun _ => ?_) (fun h => absurd h (by simpa using hk6)); conv => whnf)
        | (refine And.intro (fun _ => ?_) tf; conv => whnf)
        | (refine And.intro ft (fun _ => ?_); conv => whnf)
        | (refine And.intro (by kernel_rfl) ?_; conv => whnf)
        | (refine And.intro (by decide) ?_; conv => whnf)
        | (refine And.intro (fun _ => ?_) (fun h => absurd h (by decide)); conv => whnf)
        | (refine And.intro (fun h => absurd h (by decide)) (fun _ => ?_); conv => whnf)
        | (refine And.intro (fun _ => ?_) (fun _ => ?_) <;> conv => whnf)))
      all_goals try (refine Or.inl ?_; conv => whnf)
      repeat (any_goals (first
        | exact True.intro
        | (refine And.intro (fun _ => ?_) tf; conv => whnf)
        | (refine And.intro ft (fun _ => ?_); conv => whnf)
        | (refine And.intro (by kernel_rfl) ?_; conv => whnf)
        | (refine And.intro (by decide) ?_; conv => whnf)
        | (refine And.intro (fun _ => ?_) (fun h => absurd h (by decide)); conv => whnf)
        | (refine And.intro (fun h => absurd h (by decide)) (fun _ => ?_); conv => whnf)
        | (refine And.intro (fun _ => ?_) (fun _ => ?_) <;> conv => whnf)))
      all_goals try (refine Or.inl ?_; conv => whnf)
      repeat (any_goals (first
        | exact True.intro
        | (refine And.intro (fun _ => ?_) tf; conv => whnf)
        | (refine And.intro ft (fun _ => ?_); conv => whnf)
        | (refine And.intro (by kernel_rfl) ?_; conv => whnf)
        | (refine And.intro (by decide) ?_; conv => whnf)
        | (refine And.intro (fun _ => ?_) (fun h => absurd h (by decide)); conv => whnf)
        | (refine And.intro (fun h => absurd h (by decide)) (fun _ => ?_); conv => whnf)
        | (refine And.intro (fun _ => ?_) (fun _ => ?_) <;> conv => whnf)))
      all_goals try (exfalso; simp only [decide_eq_true_eq, decide_eq_false_iff_not, Bool.not_eq_true', Bool.not_eq_false', Bool.not_eq_true, Bool.not_eq_false, beq_iff_eq, bne_iff_ne, beq_eq_false_iff_ne, bne_eq_false_iff_eq, ne_eq, Decidable.not_not] at *; first | omega | contradiction | (simp_all; done) | (simp_all; omega))
      refine ⟨Nat, fun i => i ≤ ls.length, fun i => ([(8, iA i), (7, .own 2), (6, iA k), (4, .ptr 1 0), (3, iA 0), (2, .ptr 0 0), (0, .d (.sl 65 (ls.map hR)))], [.row (hR z65), .row (hR p), .sl 1 ((col (ls.take i) k).map lR)]), fun i => ls.length - i, ⟨0, Nat.zero_le _, ?_⟩, ?_⟩
      · all_goals refine ⟨[], ?_⟩
        repeat (any_goals (first | exact True.intro | exact rfl | with_reducible_and_instances rfl | exact (by kernel_rfl) | refine And.intro ?_ ?_))
        all_goals conv => whnf
      intro i hi
      have hi : i ≤ ls.length := hi
      have hci : ((col (ls.take i) k).map lR).length = i := by unfold col; simp; omega
      conv => whnf
      by_cases hlt : i < ls.length
      · have hx1 : ls[i]? = some ls[i] := List.getElem?_eq_getElem hlt
        have hl1 := hl _ (List.mem_of_getElem? hx1)
        generalize ls[i] = l at hx1 hl1
        have hx2 : l[k]? = some l[k] := List.getElem?_eq_getElem (by omega)
        have hc := col_succ (k := k) hx1
        rw [hx2, Option.getD_some] at hc
        generalize l[k] = x at hx2 hc
        have hdr : (hR l).drop (k * 1) = iD x :: (hR l).drop (k + 1) := by rw [← drop_row hx2, Nat.zero_add]
        repeat (any_goals (first
          | exact True.intro
          | (refine ⟨i, _, rfl, map_get hx1, ?_⟩; conv => whnf)
          | (refine ⟨k, _, rfl, hk6, hdr, ?_⟩; conv => whnf)
          | (refine Or.inl ?_; conv => whnf)
          | (refine And.intro (fun _ => ?_) tf; conv => whnf)
          | (refine And.intro ft (fun _ => ?_); conv => whnf)
          | (refine And.intro (by kernel_rfl) ?_; conv => whnf)
          | (refine And.intro (by decide) ?_; conv => whnf)
          | (refine And.intro (fun _ => ?_) (fun h => absurd h (by decide)); conv => whnf)
          | (refine And.intro (fun h => absurd h (by decide)) (fun _ => ?_); conv => whnf)
          | (refine And.intro (fun _ => ?_) (fun _ => ?_) <;> conv => whnf)
          | (refine ⟨_, _, ap 1 8 (by kernel_rfl) rfl rfl (by simp [hci]; omega), ?_⟩; conv => whnf)))
        all_goals try (exfalso; simp only [decide_eq_true_eq, decide_eq_false_iff_not, Bool.not_eq_true', Bool.not_eq_false', Bool.not_eq_true, Bool.not_eq_false, beq_iff_eq, bne_iff_ne, beq_eq_false_iff_ne, bne_eq_false_iff_eq, ne_eq, Decidable.not_not] at *; first | omega | contradiction | (simp_all; done) | (simp_all; omega))
        refine ⟨i + 1, hlt, show ls.length - (i + 1) < ls.length - i by omega, ?_⟩
        all_goals refine ⟨[(2, 4)], ?_⟩
        repeat (any_goals (first | exact True.intro | exact rfl | with_reducible_and_instances rfl | exact (by kernel_rfl) | refine And.intro ?_ ?_))
        all_goals conv => whnf
        · exact wk1 (by omega)
        · rw [hc, List.map_append]; rfl
      · have hie : i = ls.length := by omega
        subst hie
        rw [show col ls k = col (ls.take ls.length) k by rw [List.take_length]] at su
        repeat (any_goals (first
          | exact True.intro
          | (refine And.intro (fun _ => ?_) tf; conv => whnf)
          | (refine And.intro ft (fun _ => ?_); conv => whnf)
          | (refine And.intro (by kernel_rfl) ?_; conv => whnf)
          | (refine And.intro (by decide) ?_; conv => whnf)
          | (refine And.intro (fun _ => ?_) (fun h => absurd h (by decide)); conv => whnf)
          | (refine And.intro (fun h => absurd h (by decide)) (fun _ => ?_); conv => whnf)
          | (refine And.intro (fun _ => ?_) (fun _ => ?_) <;> conv => whnf)
          | (refine ⟨_, _, frz_a su rfl rfl, ?_⟩; conv => whnf)))
        all_goals try (exfalso; simp only [decide_eq_true_eq, decide_eq_false_iff_not, Bool.not_eq_true', Bool.not_eq_false', Bool.not_eq_true, Bool.not_eq_false, beq_iff_eq, bne_iff_ne, beq_eq_false_iff_ne, bne_eq_false_iff_eq, ne_eq, Decidable.not_not] at *; first | omega | contradiction | (simp_all; done) | (simp_all; omega))
        all_goals try (refine Or.inl ?_; conv => whnf)
        repeat (any_goals (first
          | exact True.intro
          | (refine And.intro (fun _ => ?_) tf; conv => whnf)
          | (refine And.intro ft (fun _ => ?_); conv => whnf)
          | (refine And.intro (by kernel_rfl) ?_; conv => whnf)
          | (refine And.intro (by decide) ?_; conv => whnf)
          | (refine And.intro (fun _ => ?_) (fun h => absurd h (by decide)); conv => whnf)
          | (refine And.intro (fun h => absurd h (by decide)) (fun _ => ?_); conv => whnf)
          | (refine And.intro (fun _ => ?_) (fun _ => ?_) <;> conv => whnf)
          | (refine ⟨_, _, frz_a su rfl rfl, ?_⟩; conv => whnf)))
        all_goals try (exfalso; simp only [decide_eq_true_eq, decide_eq_false_iff_not, Bool.not_eq_true', Bool.not_eq_false', Bool.not_eq_true, Bool.not_eq_false, beq_iff_eq, bne_iff_ne, beq_eq_false_iff_ne, bne_eq_false_iff_eq, ne_eq, Decidable.not_not] at *; first | omega | contradiction | (simp_all; done) | (simp_all; omega))
        all_goals try (refine Or.inl ?_; conv => whnf)
        repeat (any_goals (first
          | exact True.intro
          | (refine And.intro (fun _ => ?_) tf; conv => whnf)
          | (refine And.intro ft (fun _ => ?_); conv => whnf)
          | (refine And.intro (by kernel_rfl) ?_; conv => whnf)
          | (refine And.intro (by decide) ?_; conv => whnf)
          | (refine And.intro (fun _ => ?_) (fun h => absurd h (by decide)); conv => whnf)
          | (refine And.intro (fun h => absurd h (by decide)) (fun _ => ?_); conv => whnf)
          | (refine And.intro (fun _ => ?_) (fun _ => ?_) <;> conv => whnf)
          | (refine ⟨_, _, frz_a su rfl rfl, ?_⟩; conv => whnf)
          | (refine ⟨_, _, neF [1] (by kernel_rfl) rfl, ?_⟩; conv => whnf)))
        all_goals try (exfalso; simp only [decide_eq_true_eq, decide_eq_false_iff_not, Bool.not_eq_true', Bool.not_eq_false', Bool.not_eq_true, Bool.not_eq_false, beq_iff_eq, bne_iff_ne, beq_eq_false_iff_ne, bne_eq_false_iff_eq, ne_eq, Decidable.not_not] at *; first | omega | contradiction | (simp_all; done) | (simp_all; omega))
        · rename_i hne
          have h9 : ¬ sumAt ls k ≤ 9223372036854775807 := fun h => by rw [toldZ_in ⟨by omega, h⟩] at hne; simp at hne
          obtain ⟨e1, e2⟩ := merge_over hok hk6 (by omega)
          have et : toldZ (sumAt ls k) = (0, 12) := by unfold toldZ; rw [if_neg (by omega)]
          repeat (any_goals (first
            | exact True.intro
            | (refine And.intro (whole_len s68 z65_len) ?_; conv => whnf)
            | (refine ⟨hR z65, by kernel_rfl, ?_⟩; conv => whnf)
            | (refine And.intro (sets_fit z65_len z65_len) ?_; conv => whnf)
            | (refine ⟨_, rows_whole z65_len z65_len, ?_⟩; conv => whnf)
            | (refine Or.inl ?_; conv => whnf)
            | (refine And.intro (fun _ => ?_) tf; conv => whnf)
            | (refine And.intro ft (fun _ => ?_); conv => whnf)
            | (refine And.intro (by kernel_rfl) ?_; conv => whnf)
            | (refine And.intro (by decide) ?_; conv => whnf)
            | (refine And.intro (fun _ => ?_) (fun h => absurd h (by decide)); conv => whnf)
            | (refine And.intro (fun h => absurd h (by decide)) (fun _ => ?_); conv => whnf)
            | (refine And.intro (fun _ => ?_) (fun _ => ?_) <;> conv => whnf)))
          rw [e1, e2]
          all_goals refine ⟨[], ?_⟩
          repeat (any_goals (first | exact True.intro | exact rfl | with_reducible_and_instances rfl | exact (by kernel_rfl) | refine And.intro ?_ ?_))
          all_goals conv => whnf
          rw [et]; rfl
        · rename_i hne
          have h9 : sumAt ls k ≤ 9223372036854775807 := by
            refine Classical.byContradiction fun h => ?_
            unfold toldZ at hne
            rw [if_neg (by omega)] at hne
            exact absurd hne (by decide)
          have et := toldZ_in (z := sumAt ls k) ⟨by omega, h9⟩
          have hst : 0 + k * 1 + 1 ≤ (hR p).length := by rw [hR_len]; omega
          have hse := sets_row (l := p) (k := k) (toldZ (sumAt ls k)).1 (by omega)
          rw [show p.set k (toldZ (sumAt ls k)).1 = partL ls (k + 1) by rw [et, hp]; exact partL_set ls hk6] at hse
          repeat (any_goals (first
            | exact True.intro
            | (refine ⟨k, rfl, hk6, ?_⟩; conv => whnf)
            | (refine And.intro hst ?_; conv => whnf)
            | (refine ⟨_, hse, ?_⟩; conv => whnf)
            | (refine Or.inl ?_; conv => whnf)
            | (refine And.intro (fun _ => ?_) tf; conv => whnf)
            | (refine And.intro ft (fun _ => ?_); conv => whnf)
            | (refine And.intro (by kernel_rfl) ?_; conv => whnf)
            | (refine And.intro (by decide) ?_; conv => whnf)
            | (refine And.intro (fun _ => ?_) (fun h => absurd h (by decide)); conv => whnf)
            | (refine And.intro (fun h => absurd h (by decide)) (fun _ => ?_); conv => whnf)
            | (refine And.intro (fun _ => ?_) (fun _ => ?_) <;> conv => whnf)))
          all_goals try (exfalso; simp only [decide_eq_true_eq, decide_eq_false_iff_not, Bool.not_eq_true', Bool.not_eq_false', Bool.not_eq_true, Bool.not_eq_false, beq_iff_eq, bne_iff_ne, beq_eq_false_iff_ne, bne_eq_false_iff_eq, ne_eq, Decidable.not_not] at *; first | omega | contradiction | (simp_all; done) | (simp_all; omega))
          refine ⟨(k + 1, partL ls (k + 1)), ⟨⟨hk6, fun j (hj : j < k + 1) => ?_⟩, rfl⟩, show 65 - (k + 1) < 65 - k by omega, ?_⟩
          · rcases Nat.lt_or_ge j k with q | q
            · exact hsm j q
            · rw [show j = k by omega]; exact h9
          all_goals refine ⟨[], ?_⟩
          repeat (any_goals (first | exact True.intro | exact rfl | with_reducible_and_instances rfl | exact (by kernel_rfl) | refine And.intro ?_ ?_))
          all_goals conv => whnf
          exact wk1 (by omega)
    · have hke : k = 65 := by omega
      obtain ⟨e1, e2⟩ := merge_fine hok (fun j hj => hsm j (by omega))
      rw [← partL_all, ← hke, ← hp] at e2
      rw [e1, e2]
      repeat (any_goals (first
        | exact True.intro
        | (refine And.intro (fun h => absurd h (by simpa using hk6)) (fun _ => ?_); conv => whnf)
        | (refine And.intro (whole_len s68 p65) ?_; conv => whnf)
        | (refine ⟨_, whole_row s68 p65, whole_len s68 p65, ?_⟩; conv => whnf)
        | (refine And.intro (sets_fit z65_len p65) ?_; conv => whnf)
        | (refine ⟨_, rows_whole z65_len p65, ?_⟩; conv => whnf)
        | (refine ⟨_, rfl, ?_⟩; conv => whnf)
        | (refine Or.inl ?_; conv => whnf)
        | (refine And.intro (fun _ => ?_) tf; conv => whnf)
        | (refine And.intro ft (fun _ => ?_); conv => whnf)
        | (refine And.intro (by kernel_rfl) ?_; conv => whnf)
        | (refine And.intro (by decide) ?_; conv => whnf)
        | (refine And.intro (fun _ => ?_) (fun h => absurd h (by decide)); conv => whnf)
        | (refine And.intro (fun h => absurd h (by decide)) (fun _ => ?_); conv => whnf)
        | (refine And.intro (fun _ => ?_) (fun _ => ?_) <;> conv => whnf)))
      all_goals try (exfalso; simp only [decide_eq_true_eq, decide_eq_false_iff_not, Bool.not_eq_true', Bool.not_eq_false', Bool.not_eq_true, Bool.not_eq_false, beq_iff_eq, bne_iff_ne, beq_eq_false_iff_ne, bne_eq_false_iff_eq, ne_eq, Decidable.not_not] at *; first | omega | contradiction | (simp_all; done) | (simp_all; omega))
      all_goals refine ⟨[], ?_⟩
      repeat (any_goals (first | exact True.intro | exact rfl | with_reducible_and_instances rfl | exact (by kernel_rfl) | refine And.intro ?_ ?_))
      all_goals conv => whnf
end Go.Proofs.Ytoammbfipinejaa
/- Full: the maker of the iterator, and the iterator's contract. -/
namespace Go.Proofs.Ytoammbfipinejaa
open Go.RowKit
set_option linter.unusedVariables false
set_option linter.unusedSimpArgs false
set_option maxRecDepth 100000 in
theorem full_any (l : List Int) (w : World) :
    Calls Try.prog 50 #[.agg (hc l)] w fun e w' => e = .returned (.func (.func 89) #[] #[.pointer (some ⟨w.heap.size, 0, none⟩)]) ∧ w' = w.alloc (.cells (hc l) 69) := by
  have hmf : ∀ (fn : Fn) (first cap : Array Value) (w : World), (Instr.makeFunc fn first cap).run Try.prog w = .ok (.func fn first cap) w := fun _ _ _ _ => by kernel_rfl
  go_enter Try.func50, Try.ntmps50
  go_wp2
  go_ret
  exact ⟨rfl, rfl⟩
/-- The buckets that are not empty, below k. -/
def fullTo (l : List Int) (k : Nat) : List (Nat × Int) := (List.range k).filterMap fun b => if l[b]?.getD 0 = 0 then none else some (b, l[b]?.getD 0)
theorem fullTo_none {l : List Int} {k : Nat} (h : l[k]? = some 0) : fullTo l (k + 1) = fullTo l k := by
  unfold fullTo
  rw [List.range_succ, List.filterMap_append]
  simp [h]
theorem fullTo_some {l : List Int} {k : Nat} {x : Int} (h : l[k]? = some x) (hx : x ≠ 0) : fullTo l (k + 1) = fullTo l k ++ [(k, x)] := by
  unfold fullTo
  rw [List.range_succ, List.filterMap_append]
  simp [h, hx]
theorem fullTo_len (l : List Int) (k : Nat) : (fullTo l k).length ≤ k := by
  unfold fullTo
  exact Nat.le_trans (List.length_filterMap_le _ _) (by simp)
theorem fullTo_pre (l : List Int) : ∀ (j k : Nat), fullTo l k <+: fullTo l (k + j)
  | 0, k => List.prefix_refl _
  | j + 1, k => by
    refine List.IsPrefix.trans (fullTo_pre l j k) ?_
    unfold fullTo
    rw [← Nat.add_assoc, List.range_succ, List.filterMap_append]
    exact List.prefix_append _ _
def encP (x : Nat × Int) : Array Value := #[.int .i64 (x.1 : Int), .int .i64 x.2]
theorem wpListIn_load_blk {P : Program} {F : Fence} {n : Nat} {w : World} {ops : Array Oper} {rest : List Oper} {op : Oper} {a : Act} {Q : Exit → Act → World → Prop} (hgd : op.guard = none) (t : TypeId) (x : Operand) (ho : op.op = .load t x)
    (b : Nat) (hx : a.eval x = .pointer (some ⟨b, 0, none⟩)) (cs : Array Value) (d : TypeDesc) (hB : Blk w b t cs)
    (hu : P.underlying t = some d) (hd : d.isRow = true) (hi : (P.info? t).map (·.size) = some cs.size)
    (h : wpListIn F n P ops Q rest (a.put op.dst (.agg cs)) w) : wpListIn F n P ops Q (op :: rest) a w :=
  wpListIn_plain hgd fun _ hK => by
    refine ⟨fun f hf => by simp [Oper.about, ho] at hf, ?_⟩
    rw [Oper.semAt_eq _ _ _ (fun c h => by rw [ho] at h; cases h)]
    unfold execOp
    simp only [ho, hx, Instr.loadAt, Instr.sureAddr, Sem.run_bind, Sem.run_pure, Result.andThen_ok, run_load_blk hB hu hd hi]
    exact hK _ _ h
attribute [local go_sem] Oper.semAt_some
set_option maxHeartbeats 1000000 in
set_option maxRecDepth 100000 in
theorem fullIt (F : Fence) (n : Nat) (hF : F.fn 89) (hro : F.round = none) (hn : 1 ≤ n) (g : Nat) (l : List Int) (w : World) (hl : l.length = 65) (hB : Blk w g 69 (hc l)) :
    SeqStopsA F n Try.prog 89 #[.pointer (some ⟨g, 0, none⟩)] encP (fun xs => xs = fullTo l 65) (fun pre => pre <+: fullTo l 65) 65 w := fun lp J Jx W hW _ _ hY h0 => by
  have H9 := hide hl
  have HBW := hide (hB.next hW)
  refine callsIn_of_wp Try.func89 rfl hF ?_ hro
  simp only [Try.ntmps89, List.size_toArray, List.length_cons, List.length_nil, Nat.reduceAdd, Nat.reduceSub, Array.replicate_succ, Array.replicate_zero, List.push_toArray, List.append_toArray, List.nil_append, List.cons_append]
  gi_wp2_with (refine wpListIn_load_blk rfl 69 (.tmp 1) rfl g rfl (hc l) _ HBW.out Try.underlying69 rfl (info69l H9.out) ?_)
  gi_loopw [3, 4, 6] (fun _ _ i wr => ∃ (k : Nat), k ≤ 65 ∧ i = .int .i64 k ∧ J (fullTo l k) wr) (fun _ _ i _ => 65 - (intOf i).toNat)
  case atStart => exact ⟨0, by omega, rfl, h0⟩
  case round =>
    obtain ⟨k, hk, rfl, hJ⟩ := hrel
    by_cases hk1 : k < 65
    · obtain ⟨x, hx⟩ : ∃ x, l[k]? = some x := ⟨l[k]'(by omega), List.getElem?_eq_getElem _⟩
      have hix := fun w => index_h l k x w hk1 hx
      by_cases h0 : x = 0
      · subst h0
        have HJ2 := hide (show J (fullTo l (k + 1)) _ by rw [fullTo_none hx]; exact hJ)
        clear hx hJ
        gi_wp2
        refine ⟨fun _ h => (by cases h), ?_⟩
        gi_wp2
        go_roundw
        case rel => exact ⟨k + 1, by omega, by go_num, HJ2.out⟩
        case measure => simp [intOf]; omega
      · have hne : (x != 0) = true := by simpa using h0
        obtain ⟨fn, tmps, assign, body, hy, hR⟩ := hY (fullTo l k) (k, x) _ hJ (by have := fullTo_len l k; omega)
        dsimp only [encP] at hy
        have HX := hide hx
        clear hx hJ h0
        gi_wp2
        have hx0 : x ≠ 0 := by intro h; subst h; simp at hne
        refine hR.mono ?_
        rintro e W3 (⟨rfl, hJ3, _⟩ | ⟨rfl, hJx3⟩)
        · rw [← fullTo_some HX.out hx0] at hJ3
          gi_wp2
          go_roundw
          case rel => exact ⟨k + 1, by omega, by go_num, hJ3⟩
          case measure => simp [intOf]; omega
        · rw [← fullTo_some HX.out hx0] at hJx3
          gi_wp2
          refine bodyPost_ret (results_none rfl _ _ _) rfl ?_
          refine ⟨⟨_, rfl⟩, .inr ⟨_, ?_, hJx3⟩⟩
          have := fullTo_pre l (65 - (k + 1)) (k + 1)
          rw [show k + 1 + (65 - (k + 1)) = 65 by omega] at this
          exact this
    · obtain rfl : k = 65 := by omega
      gi_wp2
      go_end0
      exact ⟨⟨_, rfl⟩, .inl ⟨_, rfl, hJ⟩⟩
end Go.Proofs.Ytoammbfipinejaa
/- alive answers true. -/
namespace Go.Proofs.Ytoammbfipinejaa
open Go.RowKit
set_option linter.unusedVariables false
set_option linter.unusedSimpArgs false

def k0 : List UInt8 := [172, 2, 5, 1, 97, 9]
def k1 : List UInt8 := [5, 1, 97, 9]
def k2 : List UInt8 := [1, 97, 9]
theorem f0 : uV k0 0 = 300 ∧ tkL k0 0 (dec k0).2.1 (dec k0).2.2 = k1 ∧ tkE 0 (dec k0).2.2 = 0 := by decide +kernel
theorem f1 : unturnZ (uV k1 0) = -3 ∧ tkL k1 0 (dec k1).2.1 (dec k1).2.2 = k2 ∧ tkE 0 (dec k1).2.2 = 0 := by decide +kernel
theorem f2 : tV k2 0 1 = [97] ∧ tkL k2 0 ((cnt k2 1).2.1 + (cnt k2 1).1) (tE k2 1) = [9] ∧ tkE 0 (tE k2 1) = 0 := by decide +kernel
theorem f3 : cV [9] 0 8 = 0 ∧ tkL [9] 0 (cnt [9] 8).2.1 (cnt [9] 8).2.2 = [9] ∧ tkE 0 (cnt [9] 8).2.2 = 17 := by decide +kernel
theorem f4 : endE [9] 17 = 17 := by decide +kernel
theorem f5 : encs [300, 0] = [172, 2, 0] := by decide +kernel
theorem f6 : encs ([-3].map turnN) = [5] := by decide +kernel
def tab : ByteArray := ⟨#[97, 98]⟩
def tnil : ByteArray := ⟨#[]⟩
theorem f7 : encTs [tab, tnil] = [2, 97, 98, 0] := by decide +kernel
theorem f8 : turnN (-3) = 5 ∧ unturnZ 5 = -3 := by decide +kernel
theorem Rd.litv (w : World) (xs : List Value) (e : TypeId) (n : Nat) (hs : xs.length = n) (B : Nat) (hB : B = w.heap.size + 1) : Rd (w.alloc (.cells xs.toArray e)) B 1 (some ⟨w.heap.size, 0, none⟩) n xs := by
  subst hB
  exact Rd.litm w xs.toArray e (0, 0) n 1 (by simpa using hs)

set_option maxHeartbeats 1000000 in
set_option maxRecDepth 100000 in
theorem alive_any (w : World) : Calls Try.prog 19 #[] w fun e w' => e = .returned (.bool true) ∧ Below w.heap.size w w' := by
  go_enter Try.func19, Try.ntmps19
  go_wp2_with fail
  refine (newR_any (some ⟨w.heap.size, 0, none⟩) 6 6 k0 _ (by rw [World.size_alloc]; exact RdB.lit w k0 5 (0, 0) 6 rfl) (by omega)).mono ?_
  rintro e w1 ⟨g, rfl, hg, hr, hb⟩
  have hg0 : w.heap.size ≤ g := by simp at hg; omega
  have B1 : Below w.heap.size w w1 := ((Below.refl _ _).alloc (Nat.le_refl _) _).trans (hb.mono (by simp))
  clear hb hg
  go_wp2_with fail
  refine (uint_any g 0 k0 _ hr).mono ?_
  rintro e w2 ⟨rfl, hr2, hg2⟩
  rw [f0.2.1, f0.2.2] at hr2
  rw [f0.1]
  have B2 := B1.grown hg2 B1.size (fun q hq => by cases hq; exact hg0)
  clear hr hg2 B1
  go_wp2_with fail
  refine (int_any g 0 k1 _ hr2).mono ?_
  rintro e w3 ⟨rfl, hr3, hg3⟩
  rw [f1.2.1, f1.2.2] at hr3
  rw [f1.1]
  have B3 := B2.grown hg3 B2.size (fun q hq => by cases hq; exact hg0)
  clear hr2 hg3 B2
  go_wp2_with fail
  refine (text_any g 0 k2 1 _ hr3 (by omega)).mono ?_
  rintro e w4 ⟨rfl, hr4, hg4⟩
  rw [f2.2.1, f2.2.2] at hr4
  rw [f2.1]
  have B4 := B3.grown hg4 B3.size (fun q hq => by cases hq; exact hg0)
  clear hr3 hg4 B3
  go_wp2_with fail
  refine (left_any g 0 [9] _ hr4).mono ?_
  rintro e w4 ⟨rfl, rfl⟩
  go_wp2_with fail
  refine (err_any g 0 [9] _ hr4).mono ?_
  rintro e w4 ⟨rfl, rfl⟩
  go_wp2_with fail
  refine (countM_any g 0 [9] 8 _ hr4 (by omega)).mono ?_
  rintro e w5 ⟨rfl, hr5, hg5⟩
  rw [f3.2.1, f3.2.2] at hr5
  rw [f3.1]
  have B5 := B4.grown hg5 B4.size (fun q hq => by cases hq; exact hg0)
  clear hr4 hg5 B4
  go_wp2_with fail
  refine (err_any g 17 [9] _ hr5).mono ?_
  rintro e w5 ⟨rfl, rfl⟩
  go_wp2_with fail
  refine (end_any g 17 [9] _ hr5).mono ?_
  rintro e w6 ⟨rfl, hr6, hg6⟩
  rw [f4] at hr6 ⊢
  have B6 := B5.grown hg6 B5.size (fun q hq => by cases hq; exact hg0)
  clear hr5 hg6 B5 hr6
  go_wp2_with fail
  refine (uints_any (some ⟨w6.heap.size, 0, none⟩) 2 2 [300, 0] _ (Rd.litv w6 ([300, 0].map u64v) 48 2 rfl _ (by simp)) (by omega) (by simp)).mono ?_
  rintro e w7 ⟨v7, rfl, own7, hb7⟩
  rw [f5] at own7
  have B7 := (B6.alloc B6.size _).trans (hb7.mono (by have := B6.size; simp; omega))
  obtain ⟨A7, c7, rfl, hc7, hm7, r7⟩ := own7.form
  clear own7 hb7 B6
  go_wp2_with fail
  have r7' := Rd.alloc' r7 (.cells ([172, 2, 0].map bv).toArray 5)
  refine (sameBytes_any A7 (some ⟨w7.heap.size, 0, none⟩) 3 c7 3 3 [172, 2, 0] [172, 2, 0] _ r7' (by rw [World.size_alloc]; exact RdB.lit w7 [172, 2, 0] 5 (0, 0) 3 rfl) (by simp [maxLen])).mono ?_
  rintro e w8 ⟨rfl, nq, rfl⟩
  rw [decide_eq_true rfl]
  have B8 := below_drewN (B7.alloc B7.size (.cells ([172, 2, 0].map bv).toArray 5)) nq
  clear r7 r7' B7
  generalize (w7.alloc (.cells ([172, 2, 0].map bv).toArray 5)).drewN nq = w8 at B8 ⊢
  go_wp2_with fail
  refine (ints_any (some ⟨w8.heap.size, 0, none⟩) 1 1 [-3] _ (Rd.litv w8 ([-3].map i64v) 2 1 rfl _ (by simp)) (by omega) (by simp)).mono ?_
  rintro e w9 ⟨v9, rfl, own9, hb9⟩
  rw [f6] at own9
  have B9 := (B8.alloc B8.size _).trans (hb9.mono (by have := B8.size; simp; omega))
  obtain ⟨A9, c9, rfl, hc9, hm9, r9⟩ := own9.form
  clear own9 hb9 B8
  go_wp2_with fail
  have r9' := Rd.alloc' r9 (.cells ([5].map bv).toArray 5)
  refine (sameBytes_any A9 (some ⟨w9.heap.size, 0, none⟩) 1 c9 1 1 [5] [5] _ r9' (by rw [World.size_alloc]; exact RdB.lit w9 [5] 5 (0, 0) 1 rfl) (by simp [maxLen])).mono ?_
  rintro e w10 ⟨rfl, nq2, rfl⟩
  rw [decide_eq_true rfl]
  have B10 := below_drewN (B9.alloc B9.size (.cells ([5].map bv).toArray 5)) nq2
  clear r9 r9' B9
  generalize (w9.alloc (.cells ([5].map bv).toArray 5)).drewN nq2 = w10 at B10 ⊢
  go_wp2_with fail
  refine (texts_any (some ⟨w10.heap.size, 0, none⟩) 2 2 0 [tab, tnil] _ (Rd.litv w10 ([tab, tnil].map strv) 9 2 rfl _ (by simp)) (by omega) (by intro x hx; simp at hx; rcases hx with rfl | rfl <;> decide)).mono ?_
  rintro e w11 ⟨v11, rfl, own11, hb11⟩
  rw [f7] at own11
  have B11 := (B10.alloc B10.size _).trans (hb11.mono (by have := B10.size; simp; omega))
  obtain ⟨A11, c11, rfl, hc11, hm11, r11⟩ := own11.form
  clear own11 hb11 B10
  go_wp2_with fail
  have r11' := Rd.alloc' r11 (.cells ([2, 97, 98, 0].map bv).toArray 5)
  refine (sameBytes_any A11 (some ⟨w11.heap.size, 0, none⟩) 4 c11 4 4 [2, 97, 98, 0] [2, 97, 98, 0] _ r11' (by rw [World.size_alloc]; exact RdB.lit w11 [2, 97, 98, 0] 5 (0, 0) 4 rfl) (by simp [maxLen])).mono ?_
  rintro e w12 ⟨rfl, nq3, rfl⟩
  rw [decide_eq_true rfl]
  have B12 := below_drewN (B11.alloc B11.size (.cells ([2, 97, 98, 0].map bv).toArray 5)) nq3
  clear r11 r11' B11
  generalize (w11.alloc (.cells ([2, 97, 98, 0].map bv).toArray 5)).drewN nq3 = w12 at B12 ⊢
  go_wp2_with fail
  refine (turn_any (-3) _ (by omega) (by omega)).mono ?_
  rintro e w13 ⟨rfl, rfl⟩
  rw [f8.1]
  go_wp2_with fail
  refine (unturn_any 5 _ (by omega)).mono ?_
  rintro e w13 ⟨rfl, rfl⟩
  rw [f8.2]
  go_wp2_with fail
  go_ret
  exact ⟨rfl, B12⟩
end Go.Proofs.Ytoammbfipinejaa
/- alive of layer 5. -/
namespace Go.Proofs.Ytoammbfipinejaa
open Go.RowKit
attribute [local go_sem] Oper.semAt_some
set_option linter.unusedVariables false
set_option linter.unusedSimpArgs false
def hA : List Int := histL [0, 1, 1, 5]
theorem hA_eq : histL [0, 1, 1, 5] = hA := by rw [hA]
theorem gap4 : (if bIn 4 = true then gv (bLo 4) (bHi 4) else gv 0 0) = gv 4 7 := by kernel_rfl
theorem in4 : bIn 4 = true := by kernel_rfl
theorem gap65 : (if bIn 65 = true then gv (bLo 65) (bHi 65) else gv 0 0) = gv 0 0 := by kernel_rfl
theorem in65 : bIn 65 = false := by kernel_rfl
theorem hA_len : hA.length = 65 := by decide +kernel
theorem hA_at : hA[0]? = some 0 ∧ hA[1]? = some 1 ∧ hA[2]? = some 2 ∧ hA[4]? = some 1 := by decide +kernel
theorem hA_ok : ∀ x ∈ hA, -9223372036854775808 ≤ x ∧ x ≤ 9223372036854775807 := by decide +kernel
theorem hA_full : fullTo hA 65 = [(1, 1), (2, 2), (4, 1)] := by decide +kernel
theorem hA_sum : hA.sum = 4 := by decide +kernel
theorem hA_merge : mergeE [hA, hA] = 0 ∧ (mergeR [hA, hA])[2]? = some 4 ∧ (mergeR [hA, hA]).length = 65 := by decide +kernel
theorem hA_add : addE hA (-9) = 0 ∧ (addL hA (-9))[0]? = some 1 ∧ (addL hA (-9)).length = 65 := by decide +kernel
def hM : List Int := mergeR [hA, hA]
def hN : List Int := addL hA (-9)
theorem hN_len : hN.length = 65 := by decide +kernel
theorem hM_len : hM.length = 65 := by decide +kernel
theorem hA_flat : (flat [hA, hA]).toArray.size = 2 * 65 := by decide +kernel
def wsum (l : List (Nat × Int)) : Int := l.foldl (fun s x => wrap64 (s + wrap64 ((x.1 : Int) * x.2))) 0
theorem wsum_snoc (l : List (Nat × Int)) (x : Nat × Int) : wsum (l ++ [x]) = wrap64 (wsum l + wrap64 ((x.1 : Int) * x.2)) := by unfold wsum; rw [List.foldl_append]; rfl
theorem hA_rank : rankF hA 2 = some 2 := by decide +kernel
theorem b_62 : bkt 4611686018427387904 = 64 := by decide +kernel
theorem wpList_run_value {P : Program} {w w' : World} {ops : Array Oper} {rest : List Oper} {op : Oper} {a : Act} {Q : Exit → Act → World → Prop} (hgd : op.guard = none) (v : Value)
    (hrun : (execOp a.eval op).run P w = .ok (.value v) w') (h : wpList P ops Q rest (a.put op.dst v) w') : wpList P ops Q (op :: rest) a w :=
  wpList_plain hgd fun _ hK => by
    unfold Oper.wp
    rw [hrun]
    exact hK _ _ h
set_option maxRecDepth 100000 in
theorem build_hA (w : World) : (Instr.buildSlice 72 2 #[(0, .agg (hc hA)), (1, .agg (hc hA))]).run Try.prog w = .ok (.slice (some ⟨w.heap.size, 0, none⟩) 2 2) (w.alloc (.cells (flat [hA, hA]).toArray 69)) := by kernel_rfl
theorem execBuild (ρ : Operand → Value) (op : Oper) (t : TypeId) (n : Nat) (x y : Operand) (ho : op.op = .buildSlice t n #[(0, x), (1, y)]) (w w' : World) (v : Value)
    (h : (Instr.buildSlice t n #[(0, ρ x), (1, ρ y)]).run Try.prog w = .ok v w') : (execOp ρ op).run Try.prog w = .ok (.value v) w' := by
  unfold execOp
  simp only [ho]
  simp [Sem.run_bind, h, Result.andThen]
set_option maxHeartbeats 2000000 in
set_option maxRecDepth 100000 in
theorem alive5_any (w : World) : Calls Try.prog 37 #[] w fun e w' => e = .returned (.bool true) ∧ Below w.heap.size w w' := by
  refine (callsIn_wide (n := 3)).1 ?_
  refine callsIn_of_wp_marks Try.func37 rfl trivial ?_ rfl
  refine wpIn_wide.2 ?_
  simp only [Try.ntmps37, List.size_toArray, List.length_cons, List.length_nil, Nat.reduceAdd, Nat.reduceSub, Array.replicate_succ, Array.replicate_zero, List.push_toArray, List.append_toArray, List.nil_append, List.cons_append]
  go_wp2_with fail
  refine (of_any (some ⟨w.heap.size, 0, none⟩) 4 4 [0, 1, 1, 5] _ (Rd.litv w ([0, 1, 1, 5].map i64v) 2 4 rfl _ (by simp)) (by omega) (by simp)).mono ?_
  rintro e w1 ⟨rfl, hb1⟩
  rw [hA_eq]
  have B1 := hide (((Below.refl w.heap.size w).alloc (Nat.le_refl _) _).trans (hb1.mono (by simp)))
  clear hb1
  go_wp2_with (first | refine pause (.load 69 _) rfl ?_ | refine pause (.store 69 _ _) rfl ?_ | refine pause (.load 100 _) rfl ?_ | refine pause (.store 100 _ _) rfl ?_ | refine pause (.buildSlice _ _ _) rfl ?_)
  refine unpause ?_
  have K2 := hide ((((Blks.nil w1)).new 69 Try.zeroCells69).row 0 rfl (hc hA))
  have B2 := hide (below_setRow (B1.out.alloc B1.out.size (.cells Try.zeroCells69 69)) (g := w1.heap.size) B1.out.size (hc hA))
  have hgw1 : w.heap.size ≤ w1.heap.size := B1.out.size
  refine wpList_store_blk rfl 69 (.tmp 1) (.tmp 17) rfl w1.heap.size rfl Try.zeroCells69 (hc hA) rfl (Blk.new w1 _ _) (by rw [hc_size, hA_len]; rfl) (info69l hA_len) (hc_one hA) ?_
  generalize (w1.alloc (.cells Try.zeroCells69 69)).setRow w1.heap.size (hc hA) = w2 at *
  clear B1
  go_wp2_with fail
  refine (bounds_any 4 _ (by omega) (by omega)).mono ?_
  rintro e w3 ⟨rfl, hb3⟩
  rw [gap4, in4]
  have K3 := hide (K2.out.next hb3)
  have B3 := hide (B2.out.trans (hb3.mono B2.out.size))
  clear hb3 K2 B2 
  go_wp2_with (first | refine pause (.load 69 _) rfl ?_ | refine pause (.store 69 _ _) rfl ?_ | refine pause (.load 100 _) rfl ?_ | refine pause (.store 100 _ _) rfl ?_ | refine pause (.buildSlice _ _ _) rfl ?_)
  refine unpause ?_
  have K4 := hide (((K3.out).new 100 #[.int .i64 0, .int .i64 0]).row 0 rfl (gv 4 7))
  have B4 := hide (below_setRow (B3.out.alloc B3.out.size (.cells #[.int .i64 0, .int .i64 0] 100)) (g := w3.heap.size) B3.out.size (gv 4 7))
  have hgw3 : w.heap.size ≤ w3.heap.size := B3.out.size
  refine wpList_store_blk rfl 100 (.tmp 2) (.tmp 20) rfl w3.heap.size rfl #[.int .i64 0, .int .i64 0] (gv 4 7) rfl (Blk.new w3 _ _) rfl info100 (gv_one _ _) ?_
  generalize (w3.alloc (.cells #[.int .i64 0, .int .i64 0] 100)).setRow w3.heap.size (gv 4 7) = w4 at *
  clear K3 B3
  go_wp2_with fail
  refine (bounds_any 65 _ (by omega) (by omega)).mono ?_
  rintro e w5 ⟨rfl, hb5⟩
  rw [gap65, in65]
  have K5 := hide (K4.out.next hb5)
  have B5 := hide (B4.out.trans (hb5.mono B4.out.size))
  clear hb5 K4 B4 
  go_wp2_with (first | refine pause (.load 69 _) rfl ?_ | refine pause (.store 69 _ _) rfl ?_ | refine pause (.load 100 _) rfl ?_ | refine pause (.store 100 _ _) rfl ?_ | refine pause (.buildSlice _ _ _) rfl ?_)
  refine unpause ?_
  have K6 := hide (((K5.out).new 100 #[.int .i64 0, .int .i64 0]).row 0 rfl (gv 0 0))
  have B6 := hide (below_setRow (B5.out.alloc B5.out.size (.cells #[.int .i64 0, .int .i64 0] 100)) (g := w5.heap.size) B5.out.size (gv 0 0))
  have hgw5 : w.heap.size ≤ w5.heap.size := B5.out.size
  refine wpList_store_blk rfl 100 (.tmp 4) (.tmp 24) rfl w5.heap.size rfl #[.int .i64 0, .int .i64 0] (gv 0 0) rfl (Blk.new w5 _ _) rfl info100 (gv_one _ _) ?_
  generalize (w5.alloc (.cells #[.int .i64 0, .int .i64 0] 100)).setRow w5.heap.size (gv 0 0) = w6 at *
  clear K5 B5
  go_wp2_with (first | refine pause (.load 69 _) rfl ?_ | refine pause (.store 69 _ _) rfl ?_ | refine pause (.load 100 _) rfl ?_ | refine pause (.store 100 _ _) rfl ?_ | refine pause (.buildSlice _ _ _) rfl ?_)
  refine unpause ?_
  refine wpList_load_blk rfl 69 (.tmp 1) rfl w1.heap.size rfl (hc hA) _ (K6.out.get 2 rfl) Try.underlying69 rfl (info69l hA_len) ?_
  go_wp2_with (first | refine pause (.load 69 _) rfl ?_ | refine pause (.store 69 _ _) rfl ?_ | refine pause (.load 100 _) rfl ?_ | refine pause (.store 100 _ _) rfl ?_ | refine pause (.buildSlice _ _ _) rfl ?_)
  refine unpause ?_
  refine wpList_load_blk rfl 69 (.tmp 1) rfl w1.heap.size rfl (hc hA) _ (K6.out.get 2 rfl) Try.underlying69 rfl (info69l hA_len) ?_
  go_wp2_with (first | refine pause (.load 69 _) rfl ?_ | refine pause (.store 69 _ _) rfl ?_ | refine pause (.load 100 _) rfl ?_ | refine pause (.store 100 _ _) rfl ?_ | refine pause (.buildSlice _ _ _) rfl ?_)
  refine unpause ?_
  refine wpList_run_value rfl _ (execBuild _ _ 72 2 (.tmp 27) (.tmp 28) rfl _ _ _ (build_hA _)) ?_
  have K7 := hide (K6.out.alloc (.cells (flat [hA, hA]).toArray 69))
  have B7 := hide (B6.out.alloc B6.out.size (.cells (flat [hA, hA]).toArray 69))
  have R7 := hide (Rd.more (Rd.litm w6 (flat [hA, hA]).toArray 69 (0, 0) 2 65 hA_flat) (B' := (w6.alloc (.cells (flat [hA, hA]).toArray 69)).heap.size) (by simp))
  generalize (w6.alloc (.cells (flat [hA, hA]).toArray 69)) = w7 at *
  clear K6 B6
  go_wp2_with fail
  refine (merge_any _ 2 2 [hA, hA] _ R7.out (by omega) (by simpa using hA_len) (by simpa using hA_ok)).mono ?_
  rintro e w8 ⟨rfl, hb8⟩
  have K8 := hide (K7.out.next hb8)
  have B8 := hide (B7.out.trans (hb8.mono B7.out.size))
  clear hb8 K7 B7 R7
  have HM := hide (show hc (mergeR [hA, hA]) = hc hM from rfl)
  rw [HM.out, hA_merge.1]
  go_wp2_with (first | refine pause (.load 69 _) rfl ?_ | refine pause (.store 69 _ _) rfl ?_ | refine pause (.load 100 _) rfl ?_ | refine pause (.store 100 _ _) rfl ?_ | refine pause (.buildSlice _ _ _) rfl ?_)
  refine unpause ?_
  have K9 := hide (((K8.out).new 69 Try.zeroCells69).row 0 rfl (hc hM))
  have B9 := hide (below_setRow (B8.out.alloc B8.out.size (.cells Try.zeroCells69 69)) (g := w8.heap.size) B8.out.size (hc hM))
  have hgw8 : w.heap.size ≤ w8.heap.size := B8.out.size
  refine wpList_store_blk rfl 69 (.tmp 6) (.tmp 31) rfl w8.heap.size rfl Try.zeroCells69 (hc hM) rfl (Blk.new w8 _ _) (by rw [hc_size, hM_len]; rfl) (info69l hM_len) (hc_one hM) ?_
  generalize (w8.alloc (.cells Try.zeroCells69 69)).setRow w8.heap.size (hc hM) = w9 at *
  clear K8 B8 HM
  go_wp2_with (first | refine pause (.load 69 _) rfl ?_ | refine pause (.store 69 _ _) rfl ?_ | refine pause (.load 100 _) rfl ?_ | refine pause (.store 100 _ _) rfl ?_ | refine pause (.buildSlice _ _ _) rfl ?_)
  refine unpause ?_
  refine wpList_load_blk rfl 69 (.tmp 1) rfl w1.heap.size rfl (hc hA) _ (K9.out.get 3 rfl) Try.underlying69 rfl (info69l hA_len) ?_
  go_wp2_with fail
  refine (add_any hA (-9) _ hA_len (by omega) (by omega) (fun x hx => (hA_ok x hx).2)).mono ?_
  rintro e w10 ⟨rfl, hb10⟩
  have K10 := hide (K9.out.next hb10)
  have B10 := hide (B9.out.trans (hb10.mono B9.out.size))
  clear hb10 K9 B9 
  have HM := hide (show hc (addL hA (-9)) = hc hN from rfl)
  rw [HM.out, hA_add.1]
  go_wp2_with (first | refine pause (.load 69 _) rfl ?_ | refine pause (.store 69 _ _) rfl ?_ | refine pause (.load 100 _) rfl ?_ | refine pause (.store 100 _ _) rfl ?_ | refine pause (.buildSlice _ _ _) rfl ?_)
  refine unpause ?_
  have K11 := hide (((K10.out).new 69 Try.zeroCells69).row 0 rfl (hc hN))
  have B11 := hide (below_setRow (B10.out.alloc B10.out.size (.cells Try.zeroCells69 69)) (g := w10.heap.size) B10.out.size (hc hN))
  have hgw10 : w.heap.size ≤ w10.heap.size := B10.out.size
  refine wpList_store_blk rfl 69 (.tmp 8) (.tmp 36) rfl w10.heap.size rfl Try.zeroCells69 (hc hN) rfl (Blk.new w10 _ _) (by rw [hc_size, hN_len]; rfl) (info69l hN_len) (hc_one hN) ?_
  generalize (w10.alloc (.cells Try.zeroCells69 69)).setRow w10.heap.size (hc hN) = w11 at *
  clear K10 B10 HM
  go_wp2_with (first | refine pause (.load 69 _) rfl ?_ | refine pause (.store 69 _ _) rfl ?_ | refine pause (.load 100 _) rfl ?_ | refine pause (.store 100 _ _) rfl ?_ | refine pause (.buildSlice _ _ _) rfl ?_)
  have hu := Try.underlying69
  have hi : (Try.prog.info? 69).map (·.size) = some (hA.map i64v).length := by rw [info69, List.length_map, hA_len]
  have rA : w11.drew.rangeAt w1.heap.size 0 (hA.map i64v) := (K11.out.get 4 rfl).range _ rfl
  go_region_held3 (fun w' => w'.rangeAt w1.heap.size 0 (hA.map i64v)) (first | assumption | go_keep)
    (first
      | (go_at_call 51; refine (wideOf_any 2 _ (by omega) (by omega)).mono ?_; rintro e w12 ⟨rfl, hb12'⟩; have hb12 : Below w11.heap.size w11 w12 := ⟨hb12'.os, hb12'.tape, hb12'.output, hb12'.size, hb12'.block⟩; have rA := ((K11.out.next hb12).get 4 rfl).range (hA.map i64v) rfl)
      | (go_at_call 48; refine (rank_any hA 2 _ hA_len hA_ok).mono ?_; rintro e w13 ⟨rfl, hb13'⟩; have hb13 : Below w12.heap.size w12 w13 := ⟨hb13'.os, hb13'.tape, hb13'.output, hb13'.size, hb13'.block⟩; have rA := (((K11.out.next hb12).next hb13).get 4 rfl).range (hA.map i64v) rfl))
  have B13 := hide ((B11.out.trans (hb12.mono B11.out.size)).trans (hb13.mono (by have := B11.out.size; have := hb12.size; omega)))
  have K13 := hide ((K11.out.next hb12).next hb13)
  rw [hA_rank]
  simp only [Option.getD_some, Option.isSome_some]
  clear hb12' hb13' hb12 hb13 K11 B11 hu hi
  go_wp2_with (first | refine pause (.load 69 _) rfl ?_ | refine pause (.store 69 _ _) rfl ?_ | refine pause (.load 100 _) rfl ?_ | refine pause (.store 100 _ _) rfl ?_ | refine pause (.buildSlice _ _ _) rfl ?_)
  refine unpause ?_
  refine wpList_load_blk rfl 69 (.tmp 1) rfl w1.heap.size rfl (hc hA) _ ((K13.out.alloc _).get 4 rfl) Try.underlying69 rfl (info69l hA_len) ?_
  go_wp2_with fail
  refine (full_any hA _).mono ?_
  rintro e w14 ⟨rfl, rfl⟩
  have hfn : ∀ (f : Fn) (a b : Array Value) (w : World), (binOp .eql 93 (.func f a b) .nilFunc).run Try.prog w = .ok (.bool false) w := fun _ _ _ _ => by kernel_rfl
  go_wp2_with fail
  refine (wpIn_wide (n := 3)).1 ?_
  have hn := (Blk.new w13 3 #[.int .i64 0]).alloc (.cells (hc hA) 69)
  have hsz : ((w13.alloc (.cells #[.int .i64 0] 3)).alloc (.cells (hc hA) 69)).heap.size = w13.heap.size + 2 := by simp
  have hFb : Blk ((w13.alloc (.cells #[.int .i64 0] 3)).alloc (.cells (hc hA) 69)) (w13.heap.size + 1) 69 (hc hA) := by
    have h := Blk.new (w13.alloc (.cells #[.int .i64 0] 3)) 69 (hc hA)
    rw [World.size_alloc] at h
    exact h
  have hb14 : Below w13.heap.size w13 ((w13.alloc (.cells #[.int .i64 0] 3)).alloc (.cells (hc hA) 69)) := ((Below.refl _ _).alloc (Nat.le_refl _) _).alloc (by simp) _
  have hc14 : ((w13.alloc (.cells #[.int .i64 0] 3)).alloc (.cells (hc hA) 69)).cell? ⟨w13.heap.size, 0, none⟩ = some (.int .i64 0) := by rw [hn.cell 0]; rfl
  have hf14 : ((w13.alloc (.cells #[.int .i64 0] 3)).alloc (.cells (hc hA) 69)).frozen? ⟨w13.heap.size, 0, none⟩ = false := hn.frozen 0
  clear hn
  generalize (w13.alloc (.cells #[.int .i64 0] 3)).alloc (.cells (hc hA) 69) = w14 at *
  refine wpIn_rangeFunc_ownF (F := Fence.wide) (n := 3) rfl (by omega) (gf := 89) (lb := #[.pointer (some ⟨w13.heap.size + 1, 0, none⟩)]) rfl trivial (enters_of Try.func89 (by kernel_rfl) rfl)
    (fullIt Fence.wide 2 trivial rfl (by omega) (w13.heap.size + 1) hA w14 hA_len hFb) walksK_t walksK_b (Below.refl _ _) (fun _ => rfl)
    (fun pre W => (W.cell? ⟨w13.heap.size, 0, none⟩ = some (.int .i64 (wsum pre)) ∧ W.frozen? ⟨w13.heap.size, 0, none⟩ = false) ∧ Below w13.heap.size w13 W)
    (fun _ _ _ => False)
    (OwnFrom.and (Own.from (fun s A B row hs hg hr => ⟨cell_kept hs.1 hg hr, (frozen_kept hs.1 hg hr).trans hs.2⟩) _) (ownFrom_below (Nat.le_refl _) (by omega)))
    (fun _ _ _ _ _ hs _ _ => hs)
    ⟨⟨hc14, hf14⟩, hb14⟩ ?a1 ?assign ?body ?done ?stop
  case assign =>
    intro l x W K hK
    simp only [encP, List.zip_toArray, List.zip_cons_cons, List.zip_nil_right, List.foldl_toArray, List.foldl_cons, List.foldl_nil, List.setIfInBounds_toArray, List.set_cons_succ, List.set_cons_zero]
    gi_wp2
    exact hK
  case stop =>
    rintro D c pre W _ _ h _
    exact h.elim
  case body =>
    rintro l pre x W ⟨⟨hcl, hfr⟩, hB⟩ _
    gi_wp2
    exact ⟨KeepsOthers.setCell _ _ _, (KeepsOthers.setCell _ _ _).walks, ⟨by rw [wsum_snoc]; exact World.cell?_setCell_same' _ _ _ (by rw [hcl]; rfl), by rw [World.frozen?_setCell]; exact hfr⟩, hB.setCell (p := ⟨w13.heap.size, 0, none⟩) (Nat.le_refl _) _⟩
  case done =>
    rintro D ys W hD hys ⟨⟨hcl, hfr⟩, hB⟩ hK
    subst hys
    rw [hA_full] at hcl
    have hw9 : wsum [(1, 1), (2, 2), (4, 1)] = 9 := by decide +kernel
    rw [hw9] at hcl
    have KW := hide (K13.out.next hB)
    have BW := hide (B13.out.trans (hB.mono B13.out.size))
    have hDw : w.heap.size ≤ D := by have := B13.out.size; omega
    clear hw9 hsz hFb hb14 hc14 hf14 hD hB K13 B13
    have g4 := KW.out.get 4 rfl
    have d0 := g4.num hA_at.1
    have d1 := g4.num hA_at.2.1
    have d2 := g4.num hA_at.2.2.1
    have d4 := g4.num hA_at.2.2.2
    have g3 := KW.out.get 3 rfl
    have e0 := g3.cell 0
    have e1 := g3.cell 1
    simp only [gv, List.getElem?_toArray, List.getElem?_cons_zero, List.getElem?_cons_succ] at e0 e1
    have dm := (KW.out.get 1 rfl).num (l := hM) hA_merge.2.1
    have dn := (KW.out.get 0 rfl).num (l := hN) hA_add.2.1
    clear g3 g4
    go_wp2_with (refine pause (.load 69 _) rfl ?_)
    refine unpause ?_
    refine wpList_load_blk_g rfl 69 (.tmp 1) rfl w1.heap.size rfl (hc hA) _ (KW.out.get 4 rfl) Try.underlying69 rfl (info69l hA_len) ?_
    clear d0 d1 d2 d4 e0 e1 dm dn hcl hfr
    go_wp2_with fail
    refine (total_any hA _ hA_len hA_ok).mono ?_
    rintro e W1 ⟨rfl, hW1⟩
    have hK1 : W1.heap[D]? = some (Obj.deferred (some [])) := (hW1.block D (Array.getElem?_eq_some_iff.1 hK).1).trans hK
    have BW1 := hide (BW.out.trans (hW1.mono BW.out.size))
    rw [hA_sum]
    clear hW1 BW KW
    go_wp2_with fail
    refine (wideOf_any 4 _ (by omega) (by omega)).mono ?_
    rintro e W2 ⟨rfl, hW2⟩
    have hK2 : W2.heap[D]? = some (Obj.deferred (some [])) := (hW2.block D (Array.getElem?_eq_some_iff.1 hK1).1).trans hK1
    have BW2 := hide (BW1.out.trans (hW2.mono BW1.out.size))
    have heq : ∀ w, (binOp .eql 81 (.agg (wv 4)) (.agg (wv 4))).run Try.prog w = .ok (.bool true) w := fun w => by kernel_rfl
    clear hW2 BW1
    go_wp2_with fail
    refine (bucket_any 4611686018427387904 _ (by omega) (by omega)).mono ?_
    rintro e w' ⟨rfl, rfl⟩
    rw [b_62]
    go_wp2_with fail
    refine ⟨by simp, .inl ⟨_, _, rfl, run_takeDeferred hK2, ?_⟩⟩
    exact ⟨_, results_tmp rfl _ _ _, rfl, BW2.out.trans (belowK_b (w := w) (Nat.le_refl _) W2 D _ _ hDw hK2 rfl rfl)⟩
end Go.Proofs.Ytoammbfipinejaa
/- The document's Rank, and Total, Rank and Full of the program. -/
namespace Go.Proofs.Ytoammbfipinejaa
set_option linter.unusedSimpArgs false
set_option linter.unusedVariables false
open Go.RowKit
set_option maxRecDepth 100000
theorem wideZ_hi {hi lo : Int} (h0 : 0 ≤ lo) (h1 : lo < word) : hiZ (wideZ hi lo) = hi ∧ loZ (wideZ hi lo) = lo := by
  unfold hiZ loZ wideZ word at *
  omega
theorem rank_sat (l : List Int) (K : Int) (hl : l.length = 65) (hx : ∀ z ∈ l, in64 z) : Sat Try.prog 48 [.d (hD l), .d (wD K)] [] (.tup [iA ((rankF l K).getD 0 : Nat), bA (rankF l K).isSome]) [] :=
  .of_calls (.cons (.d (hD_flat l)) (.cons (.d (wD_flat K)) .nil)) (.tup (.cons (.d (.v _)) (.cons (.d (.v _)) .nil))) fun w => rank_any l K w hl hx
/-- What is left of K behind the first b counts. -/
theorem rank_none {l : List Int} {K : Int} (hok : okH l = true) (hK : 0 ≤ K) (hl : l.length = 65) (h : ∀ b, b < 65 → (l.take (b + 1)).sum ≤ K) : rankF l K = none := by
  unfold rankF
  rw [if_neg (by simp [hok]; omega)]
  rw [List.find?_eq_none]
  intro b hb
  have := h b (List.mem_range.1 hb)
  simp; omega
theorem rank_some {l : List Int} {K : Int} {b : Nat} (hok : okH l = true) (hK : 0 ≤ K) (hb : b < 65) (h1 : ∀ j, j < b → (l.take (j + 1)).sum ≤ K) (h2 : K < (l.take (b + 1)).sum) : rankF l K = some b := by
  unfold rankF
  rw [if_neg (by simp [hok]; omega)]
  rw [List.find?_eq_some_iff_getElem]
  refine ⟨decide_eq_true h2, b, by simpa using hb, by simp, fun j hj => ?_⟩
  have := h1 j hj
  simp; omega
theorem refRank_sat (l : List Int) (hi lo : Int) (hl : l.length = 65) (hx : ∀ z ∈ l, in64 z) (hh : in64 hi) (h0 : 0 ≤ lo) (h1 : lo < word) : Sat Try.prog 49 [.d (hD l), iA hi, .d (.v (.int .u64 lo))] [] (iA (match rankF l (wideZ hi lo) with | some b => (b : Int) | none => -1)) [] := by
  have r1 := refRight_sat l hl
  have hKs : wideZ hi lo < 0 ↔ hi < 0 := by unfold wideZ word at *; omega
  by_cases hbad : okH l = false ∨ hi < 0
  · have hr : rankF l (wideZ hi lo) = none := by unfold rankF; rw [if_pos (by rw [hKs]; exact hbad)]
    rw [hr]
    refine sat_of_vc (T := tiOf Try.prog) (E := E0) Try.func49 rfl rfl hE0 hm0 rfl ?_
    conv => whnf
    repeat (any_goals (first
      | exact True.intro
      | (refine And.intro (whole_len s68 hl) ?_; conv => whnf)
      | (refine ⟨_, whole_row s68 hl, whole_len s68 hl, ?_⟩; conv => whnf)
      | (refine ⟨_, rfl, ?_⟩; conv => whnf)
      | (refine Or.inl ?_; conv => whnf)
      | (refine And.intro (fun _ => ?_) tf; conv => whnf)
      | (refine And.intro ft (fun _ => ?_); conv => whnf)
      | (refine And.intro (by kernel_rfl) ?_; conv => whnf)
      | (refine And.intro (by decide) ?_; conv => whnf)
      | (refine And.intro (fun _ => ?_) (fun h => absurd h (by decide)); conv => whnf)
      | (refine And.intro (fun h => absurd h (by decide)) (fun _ => ?_); conv => whnf)
      | (refine And.intro (fun _ => ?_) (fun _ => ?_) <;> conv => whnf)
      | (refine ⟨_, _, r1.pu rfl rfl, ?_⟩; conv => whnf)))
    all_goals try (exfalso; simp only [decide_eq_true_eq, decide_eq_false_iff_not, Bool.not_eq_true', Bool.not_eq_false', Bool.not_eq_true, Bool.not_eq_false, beq_iff_eq, bne_iff_ne, beq_eq_false_iff_ne, bne_eq_false_iff_eq, ne_eq, Decidable.not_not] at *; first | omega | contradiction | (simp_all; done) | (simp_all; omega))
    all_goals refine ⟨[], ?_⟩
    repeat (any_goals (first | exact True.intro | exact rfl | with_reducible_and_instances rfl | exact (by kernel_rfl) | refine And.intro ?_ ?_))
    all_goals conv => whnf
  have hok : okH l = true := by cases h : okH l <;> simp_all
  have hh0 : 0 ≤ hi := by omega
  have hK : 0 ≤ wideZ hi lo := by omega
  have fK := few_wide hh h0 h1
  have n1 := wide_num hi lo hh h0 h1
  generalize hKK : wideZ hi lo = K at *
  refine sat_of_vc (T := tiOf Try.prog) (E := E0) Try.func49 rfl rfl hE0 hm0 rfl ?_
  conv => whnf
  repeat (any_goals (first
    | exact True.intro
    | (refine And.intro (whole_len s68 hl) ?_; conv => whnf)
    | (refine ⟨_, whole_row s68 hl, whole_len s68 hl, ?_⟩; conv => whnf)
    | (refine ⟨_, rfl, ?_⟩; conv => whnf)
    | (refine And.intro (fun _ => ?_) tf; conv => whnf)
    | (refine And.intro ft (fun _ => ?_); conv => whnf)
    | (refine And.intro (by kernel_rfl) ?_; conv => whnf)
    | (refine And.intro (by decide) ?_; conv => whnf)
    | (refine And.intro (fun _ => ?_) (fun h => absurd h (by decide)); conv => whnf)
    | (refine And.intro (fun h => absurd h (by decide)) (fun _ => ?_); conv => whnf)
    | (refine And.intro (fun _ => ?_) (fun _ => ?_) <;> conv => whnf)
    | (refine ⟨_, _, r1.pu rfl rfl, ?_⟩; conv => whnf)
    | (refine ⟨_, _, n1.pu rfl rfl, ?_⟩; conv => whnf)))
  all_goals try (exfalso; simp only [decide_eq_true_eq, decide_eq_false_iff_not, Bool.not_eq_true', Bool.not_eq_false', Bool.not_eq_true, Bool.not_eq_false, beq_iff_eq, bne_iff_ne, beq_eq_false_iff_ne, bne_eq_false_iff_eq, ne_eq, Decidable.not_not] at *; first | omega | contradiction | (simp_all; done) | (simp_all; omega))
  all_goals try (refine Or.inl ?_; conv => whnf)
  repeat (any_goals (first
    | exact True.intro
    | (refine And.intro (whole_len s68 hl) ?_; conv => whnf)
    | (refine ⟨_, whole_row s68 hl, whole_len s68 hl, ?_⟩; conv => whnf)
    | (refine ⟨_, rfl, ?_⟩; conv => whnf)
    | (refine And.intro (fun _ => ?_) tf; conv => whnf)
    | (refine And.intro ft (fun _ => ?_); conv => whnf)
    | (refine And.intro (by kernel_rfl) ?_; conv => whnf)
    | (refine And.intro (by decide) ?_; conv => whnf)
    | (refine And.intro (fun _ => ?_) (fun h => absurd h (by decide)); conv => whnf)
    | (refine And.intro (fun h => absurd h (by decide)) (fun _ => ?_); conv => whnf)
    | (refine And.intro (fun _ => ?_) (fun _ => ?_) <;> conv => whnf)
    | (refine ⟨_, _, r1.pu rfl rfl, ?_⟩; conv => whnf)
    | (refine ⟨_, _, n1.pu rfl rfl, ?_⟩; conv => whnf)))
  all_goals try (exfalso; simp only [decide_eq_true_eq, decide_eq_false_iff_not, Bool.not_eq_true', Bool.not_eq_false', Bool.not_eq_true, Bool.not_eq_false, beq_iff_eq, bne_iff_ne, beq_eq_false_iff_ne, bne_eq_false_iff_eq, ne_eq, Decidable.not_not] at *; first | omega | contradiction | (simp_all; done) | (simp_all; omega))
  all_goals try (refine Or.inl ?_; conv => whnf)
  repeat (any_goals (first
    | exact True.intro
    | (refine And.intro (whole_len s68 hl) ?_; conv => whnf)
    | (refine ⟨_, whole_row s68 hl, whole_len s68 hl, ?_⟩; conv => whnf)
    | (refine ⟨_, rfl, ?_⟩; conv => whnf)
    | (refine And.intro (fun _ => ?_) tf; conv => whnf)
    | (refine And.intro ft (fun _ => ?_); conv => whnf)
    | (refine And.intro (by kernel_rfl) ?_; conv => whnf)
    | (refine And.intro (by decide) ?_; conv => whnf)
    | (refine And.intro (fun _ => ?_) (fun h => absurd h (by decide)); conv => whnf)
    | (refine And.intro (fun h => absurd h (by decide)) (fun _ => ?_); conv => whnf)
    | (refine And.intro (fun _ => ?_) (fun _ => ?_) <;> conv => whnf)
    | (refine ⟨_, _, r1.pu rfl rfl, ?_⟩; conv => whnf)
    | (refine ⟨_, _, n1.pu rfl rfl, ?_⟩; conv => whnf)))
  all_goals try (exfalso; simp only [decide_eq_true_eq, decide_eq_false_iff_not, Bool.not_eq_true', Bool.not_eq_false', Bool.not_eq_true, Bool.not_eq_false, beq_iff_eq, bne_iff_ne, beq_eq_false_iff_ne, bne_eq_false_iff_eq, ne_eq, Decidable.not_not] at *; first | omega | contradiction | (simp_all; done) | (simp_all; omega))
  refine ⟨Nat × Int × List Int, fun y => (y.1 ≤ 65 ∧ ∀ j, j < y.1 → (l.take (j + 1)).sum ≤ K) ∧ y.2.1 = K - (l.take y.1).sum ∧ 0 ≤ y.2.1 ∧ y.2.1 ≤ K ∧ y.2.2 = canL y.2.1.natAbs, fun y => ([(8, iA y.1), (7, .ptr 1 0), (3, .ptr 0 0)], [.row (hR l), .cells [bA (decide (y.2.1 < 0)), .d (lD y.2.2)]]), fun y => 65 - y.1, ⟨(0, K, canL K.natAbs), ⟨⟨by omega, fun j (hj : j < 0) => by omega⟩, show K = K - (l.take 0).sum by simp, hK, Int.le_refl _, rfl⟩, ?_⟩, ?_⟩
  · all_goals refine ⟨[], ?_⟩
    repeat (any_goals (first | exact True.intro | exact rfl | with_reducible_and_instances rfl | exact (by kernel_rfl) | refine And.intro ?_ ?_))
    all_goals conv => whnf
  rintro ⟨k, S, d⟩ ⟨⟨(hk : k ≤ 65), (hj : ∀ j, j < k → (l.take (j + 1)).sum ≤ K)⟩, (hS : S = K - (l.take k).sum), (hS0 : 0 ≤ S), (hSK : S ≤ K), (hd : d = canL S.natAbs)⟩
  subst hd
  conv => whnf
  by_cases hlt : k < 65
  · have hxk : l[k]? = some l[k] := List.getElem?_eq_getElem (by omega)
    have hz := hx _ (List.mem_of_getElem? hxk)
    have hzk : 0 ≤ l[k] := by have := List.all_eq_true.1 hok _ (List.mem_of_getElem? hxk); exact of_decide_eq_true this
    have hsu := sum_take_succ hxk
    generalize l[k] = z at hxk hz hzk hsu
    have fS : few 9 S := by unfold few at *; omega
    have fz : few 9 z := few_mono (few_i64 hz) (by omega)
    have o1 := of_num z hz
    have c1 := cmp_num (k := 9) (by omega) fS fz
    have g1 := neg_num z (by have := few_len fz; omega)
    have a1 := add_few (k := 9) (by omega) fS (few_neg fz)
    repeat (any_goals (first
      | exact True.intro
      | (refine ⟨k, rfl, hlt, ?_⟩; conv => whnf)
      | (refine ⟨_, rfl, _, _, drop_row hxk, ?_⟩; conv => whnf)
      | (refine Or.inl ?_; conv => whnf)
      | (refine And.intro (fun _ => ?_) tf; conv => whnf)
      | (refine And.intro ft (fun _ => ?_); conv => whnf)
      | (refine And.intro (by kernel_rfl) ?_; conv => whnf)
      | (refine And.intro (by decide) ?_; conv => whnf)
      | (refine And.intro (fun _ => ?_) (fun h => absurd h (by decide)); conv => whnf)
      | (refine And.intro (fun h => absurd h (by decide)) (fun _ => ?_); conv => whnf)
      | (refine And.intro (fun _ => ?_) (fun _ => ?_) <;> conv => whnf)
      | (refine ⟨_, _, o1.pu rfl rfl, ?_⟩; conv => whnf)
      | (refine ⟨_, _, c1.pu rfl rfl, ?_⟩; conv => whnf)
      | (refine ⟨_, _, g1.pu rfl rfl, ?_⟩; conv => whnf)
      | (refine ⟨_, _, a1.pu rfl rfl, ?_⟩; conv => whnf)))
    all_goals try (exfalso; simp only [decide_eq_true_eq, decide_eq_false_iff_not, Bool.not_eq_true', Bool.not_eq_false', Bool.not_eq_true, Bool.not_eq_false, beq_iff_eq, bne_iff_ne, beq_eq_false_iff_ne, bne_eq_false_iff_eq, ne_eq, Decidable.not_not] at *; first | omega | contradiction | (simp_all; done) | (simp_all; omega))
    · have hc : cmpZ S z < 0 := (by (try simp only [decide_eq_true_eq, decide_eq_false_iff_not, Bool.not_eq_true', Bool.not_eq_false', Bool.not_eq_true, Bool.not_eq_false, beq_iff_eq, bne_iff_ne, beq_eq_false_iff_ne, bne_eq_false_iff_eq, ne_eq, Decidable.not_not, Int.natCast_eq_zero] at *); first | omega | assumption | (simp_all; done) | (simp_all; omega))
      have h9 : S < z := by
        unfold cmpZ at hc
        split at hc
        · omega
        · split at hc
          · assumption
          · omega
      have hr := rank_some (K := K) hok hK hlt hj (by omega)
      rw [hr]
      all_goals refine ⟨[], ?_⟩
      repeat (any_goals (first | exact True.intro | exact rfl | with_reducible_and_instances rfl | exact (by kernel_rfl) | refine And.intro ?_ ?_))
      all_goals conv => whnf
    · have hc : ¬ cmpZ S z < 0 := (by (try simp only [decide_eq_true_eq, decide_eq_false_iff_not, Bool.not_eq_true', Bool.not_eq_false', Bool.not_eq_true, Bool.not_eq_false, beq_iff_eq, bne_iff_ne, beq_eq_false_iff_ne, bne_eq_false_iff_eq, ne_eq, Decidable.not_not, Int.natCast_eq_zero] at *); first | omega | assumption | (simp_all; done) | (simp_all; omega))
      have h9 : z ≤ S := by
        unfold cmpZ at hc
        split at hc
        · omega
        · split at hc
          · omega
          · omega
      refine ⟨(k + 1, S + -z, canL (S + -z).natAbs), ⟨⟨hlt, fun j (hq : j < k + 1) => ?_⟩, show S + -z = K - (l.take (k + 1)).sum by omega, show 0 ≤ S + -z by omega, show S + -z ≤ K by omega, rfl⟩, show 65 - (k + 1) < 65 - k by omega, ?_⟩
      · rcases Nat.lt_or_ge j k with q | q
        · exact hj j q
        · rw [show j = k by omega]; omega
      all_goals refine ⟨[], ?_⟩
      repeat (any_goals (first | exact True.intro | exact rfl | with_reducible_and_instances rfl | exact (by kernel_rfl) | refine And.intro ?_ ?_))
      all_goals conv => whnf
      exact wk1 (show k ≤ _ by omega)
  · have hke : k = 65 := by omega
    have hr := rank_none (K := K) hok hK hl (fun b hb => hj b (by omega))
    rw [hr]
    repeat (any_goals (first
      | exact True.intro
      | (refine Or.inl ?_; conv => whnf)
      | (refine And.intro (fun _ => ?_) tf; conv => whnf)
      | (refine And.intro ft (fun _ => ?_); conv => whnf)
      | (refine And.intro (by kernel_rfl) ?_; conv => whnf)
      | (refine And.intro (by decide) ?_; conv => whnf)
      | (refine And.intro (fun _ => ?_) (fun h => absurd h (by decide)); conv => whnf)
      | (refine And.intro (fun h => absurd h (by decide)) (fun _ => ?_); conv => whnf)
      | (refine And.intro (fun _ => ?_) (fun _ => ?_) <;> conv => whnf)))
    all_goals try (exfalso; simp only [decide_eq_true_eq, decide_eq_false_iff_not, Bool.not_eq_true', Bool.not_eq_false', Bool.not_eq_true, Bool.not_eq_false, beq_iff_eq, bne_iff_ne, beq_eq_false_iff_ne, bne_eq_false_iff_eq, ne_eq, Decidable.not_not] at *; first | omega | contradiction | (simp_all; done) | (simp_all; omega))
    all_goals refine ⟨[], ?_⟩
    repeat (any_goals (first | exact True.intro | exact rfl | with_reducible_and_instances rfl | exact (by kernel_rfl) | refine And.intro ?_ ?_))
    all_goals conv => whnf
end Go.Proofs.Ytoammbfipinejaa
/- Full: the buckets that are not empty, in order. -/
namespace Go.Proofs.Ytoammbfipinejaa
set_option linter.unusedSimpArgs false
set_option linter.unusedVariables false
open Go.RowKit
set_option maxRecDepth 100000
/-- From the bucket y on the next one that is not empty is b. -/
def NxF (l : List Int) (y b : Nat) (v : Int) (y' : Nat) : Prop := y ≤ b ∧ b < 65 ∧ l[b]? = some v ∧ v ≠ 0 ∧ (∀ j, y ≤ j → j < b → l[j]? = some 0) ∧ y' = b + 1
def FinF (l : List Int) (y : Nat) : Prop := y ≤ 65 ∧ ∀ j, y ≤ j → j < 65 → l[j]? = some 0
theorem sees_row {l : List Int} {Lc : List AObj} {i : Nat} (hi : Lc[i]? = some (.row (hR l))) {us vs : List Value} {ρ0 : Nat → Option Value} {w : World}
    (h : ∃ F ρ H, Env F ρ H w ∧ (∀ (i : Nat) o, Lc[i]? = some o → o.live = true → H i = some o ∧ ∃ h, ρ0 i = some h ∧ ρ i = some h) ∧ RAs w F ρ [] us ∧ RAs w F ρ [.ptr i 0] vs) :
    us = [] ∧ ∃ b t, vs = [.pointer (some ⟨b, 0, none⟩)] ∧ Blk w b t (hc l) := by
  obtain ⟨F, ρ, H, E, ho, h1, h2⟩ := h
  cases h1
  refine ⟨rfl, ?_⟩
  obtain ⟨v, rfl, hv⟩ := h2.one_out
  cases hv with | @ptr _ _ b hρ =>
  obtain ⟨hHi, hh, e1, e2⟩ := ho i _ hi rfl
  obtain ⟨h', e3, ⟨b', t, vs, rfl, hB, hR'⟩, _⟩ := E.rep i _ hHi rfl
  rw [hρ] at e3; injection e3 with e3; injection e3 with e3; injection e3 with e3; injection e3 with e3
  subst e3
  have := (hR_flat l).eq hR'
  have hv : vs = hc l := by
    apply Array.ext'
    rw [this]; rfl
  subst hv
  exact ⟨b, t, rfl, hB⟩
theorem wpListIn_load_blk2 {P : Program} {F : Fence} {n : Nat} {w : World} {ops : Array Oper} {rest : List Oper} {op : Oper} {a : Act} {Q : Exit → Act → World → Prop} (hgd : op.guard = none) (t t' : TypeId) (x : Operand) (ho : op.op = .load t x)
    (b : Nat) (hx : a.eval x = .pointer (some ⟨b, 0, none⟩)) (cs : Array Value) (d : TypeDesc) (hB : Blk w b t' cs)
    (hu : P.underlying t = some d) (hd : d.isRow = true) (hi : (P.info? t).map (·.size) = some cs.size)
    (h : wpListIn F n P ops Q rest (a.put op.dst (.agg cs)) w) : wpListIn F n P ops Q (op :: rest) a w :=
  wpListIn_plain hgd fun _ hK => by
    refine ⟨fun f hf => by simp [Oper.about, ho] at hf, ?_⟩
    rw [Oper.semAt_eq _ _ _ (fun c h => by rw [ho] at h; cases h)]
    unfold execOp
    have hr : (loadVar t ⟨b, 0, none⟩).run P w = .ok (.agg cs) w := run_loadVar_row w b t' t cs (0, 0) d hB hu (by cases d <;> simp_all) hi
    simp only [ho, hx, Instr.loadAt, Instr.sureAddr, Sem.run_bind, Sem.run_pure, Result.andThen_ok, hr]
    exact hK _ _ h
attribute [local go_sem] Oper.semAt_some
set_option maxHeartbeats 1000000 in
theorem fullN {l : List Int} (hl : l.length = 65) {Lc : List AObj} {i : Nat} (hi : Lc[i]? = some (.row (hR l))) :
    IterN Try.prog 89 [] [.ptr i 0] Lc 0 (fun y x y' => ∃ b v, NxF l y b v y' ∧ x = [iA (b : Nat), iA v]) (FinF l) := by
  intro us vs lp ρ0
  refine ⟨fun y vals y' => ∃ b v, NxF l y b v y' ∧ vals = [.int .i64 (b : Nat), .int .i64 v], fun y vals y' h => ?_, ?_⟩
  · obtain ⟨b, v, h, rfl⟩ := h
    exact ⟨_, ⟨b, v, h, rfl⟩, fun w F ρ => .cons (.d (.v _)) (.cons (.d (.v _)) .nil)⟩
  intro J Jx hJ hN hNx hY O w h0
  obtain ⟨rfl, g, t, rfl, hB⟩ := sees_row hi (hJ 0 O w h0).1
  have H9 := hide hl
  have HB := hide hB
  clear hJ hN hNx hB hi
  refine (callsIn_wide (n := 1)).1 (callsIn_of_wp Try.func89 rfl trivial ?_ rfl)
  simp only [Try.ntmps89, List.size_toArray, List.length_cons, List.length_nil, Nat.reduceAdd, Nat.reduceSub, Array.replicate_succ, Array.replicate_zero, List.push_toArray, List.append_toArray, List.nil_append, List.cons_append]
  gi_wp2_with (refine wpListIn_load_blk2 rfl 69 t (.tmp 1) rfl g rfl (hc l) _ HB.out Try.underlying69 rfl (info69l H9.out) ?_)
  gi_loopw [3, 4, 6] (fun _ _ i wr => ∃ (k y : Nat) (O : Nat → Prop), k ≤ 65 ∧ y ≤ k ∧ (∀ j, y ≤ j → j < k → l[j]? = some 0) ∧ i = .int .i64 k ∧ J y O wr) (fun _ _ i _ => 65 - (intOf i).toNat)
  case atStart => exact ⟨0, 0, O, by omega, by omega, fun j h1 h2 => by omega, rfl, h0⟩
  case round =>
    obtain ⟨k, y, O1, hk, hyk, hz, rfl, hJ⟩ := hrel
    have HZ := hide hz
    clear hz
    by_cases hk1 : k < 65
    · obtain ⟨x, hx⟩ : ∃ x, l[k]? = some x := ⟨l[k]'(by have := H9.out; omega), List.getElem?_eq_getElem _⟩
      have hix := fun w => index_h l k x w hk1 hx
      by_cases h0 : x = 0
      · subst h0
        have HX := hide hx
        clear hx
        gi_wp2
        refine ⟨fun _ h => (by cases h), ?_⟩
        gi_wp2
        go_roundw
        case rel => exact ⟨k + 1, y, O1, by omega, by omega, fun j h1 h2 => by
                      rcases Nat.lt_or_ge j k with q | q
                      · exact HZ.out j h1 q
                      · rw [show j = k by omega]; exact HX.out, by go_num, hJ⟩
        case measure => simp [intOf]; omega
      · have hne : (x != 0) = true := by simpa using h0
        have HNx := hide (show NxF l y k x (k + 1) from ⟨hyk, hk1, hx, h0, HZ.out, rfl⟩)
        obtain ⟨fn, tmps, assign, body, hy, hR⟩ := hY y O1 _ _ (k + 1) ⟨k, x, HNx.out, rfl⟩ hJ
        clear hx hJ h0
        gi_wp2
        refine hR.mono ?_
        rintro e W3 ⟨O', hfar, hO', ⟨rfl, hJ3⟩ | ⟨rfl, hJx3⟩⟩
        · clear hR hy hfar
          gi_wp2
          go_roundw
          case rel => exact ⟨k + 1, k + 1, O', by omega, by omega, fun j h1 h2 => by omega, by go_num, hJ3⟩
          case measure => simp [intOf]; omega
        · clear hR hy hfar
          gi_wp2
          refine bodyPost_ret (results_none rfl _ _ _) rfl ?_
          exact ⟨⟨_, rfl⟩, _, .inr hJx3⟩
    · obtain rfl : k = 65 := by omega
      gi_wp2
      go_end0
      exact ⟨⟨_, rfl⟩, O1, .inl ⟨y, ⟨hyk, HZ.out⟩, hJ⟩⟩
end Go.Proofs.Ytoammbfipinejaa
