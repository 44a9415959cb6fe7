/- Parts Hr, HistG, Gap, HistF, HistH, Hk, Hf, Ht, Hq, CdA, CdB, CeA of the proof, put together. -/
import Derived.Test.YtbjmdnemeidpjaaM9
import Derived.RangeFuncNested
import Derived.RangeFuncBound
import Derived.RangeFuncCalls
import Derived.RangeFuncLeaves
import Derived.Shelf.Abstract
import Derived.Shelf.RegionOpen
import Derived.OwnWalkIn
import Derived.TacticsInMore
import Derived.LoopNIn
import Derived.LoopIn
import Derived.Test.YtbjmdnemeidpjaaProg
import Derived.Outline
import Derived.RangeFuncFrom
import Derived.TacticsIn
import Derived.OrdersIn
/- The document's histograms: Of, right, Merge, Rank. -/
namespace Go.Proofs.Ytbjmdnemeidpjaa
set_option linter.unusedSimpArgs false
set_option linter.unusedVariables false
open Go.RowKit
set_option maxRecDepth 100000
theorem refBucket_sat (v : Int) (h : in64 v) : Sat Try.prog 36 [iA v] [] (iA (bkt v)) [] :=
  .of_same (.cons (.d (.v _)) .nil) (.d (.v _)) fun w => refBucket_any v w h.1 h.2
theorem hR_len (l : List Int) : (hR l).length = l.length := List.length_map _
theorem drop_row {l : List Int} {k : Nat} {x : Int} (hx : l[k]? = some x) : (hR l).drop (0 + k * 1) = iD x :: (hR l).drop (k + 1) := by
  obtain ⟨hk, rfl⟩ := List.getElem?_eq_some_iff.1 hx
  rw [Nat.zero_add, Nat.mul_one, List.drop_eq_getElem_cons (by rw [hR_len]; exact hk)]
  simp [hR]
theorem all_take {p : Int → Bool} {l : List Int} {k : Nat} {x : Int} (hx : l[k]? = some x) : (l.take (k + 1)).all p = ((l.take k).all p && p x) := all_take_succ hx
theorem refRight_sat (l : List Int) (hl : l.length = 65) : Sat Try.prog 106 [.d (hD l)] [] (bA (okH l)) [] := by
  refine sat_of_vc (T := tiOf Try.prog) (E := E0) Try.func106 rfl rfl hE0 hm0 rfl ?_
  conv => whnf
  repeat (any_goals (first
    | exact True.intro
    | (refine Or.inl ?_; conv => whnf)
    | (refine And.intro (fun _ => ?_) tf; conv => whnf)
    | (refine And.intro ft (fun _ => ?_); conv => whnf)
    | (refine And.intro (by kernel_rfl) ?_; conv => whnf)
    | (refine And.intro (by decide) ?_; conv => whnf)
    | (refine And.intro (fun _ => ?_) (fun h => absurd h (by decide)); conv => whnf)
    | (refine And.intro (fun h => absurd h (by decide)) (fun _ => ?_); conv => whnf)
    | (refine And.intro (fun _ => ?_) (fun _ => ?_) <;> conv => whnf)))
  refine ⟨Nat, fun k => k ≤ 65 ∧ okH (l.take k) = true, fun k => ([(3, iA k), (1, .ptr 0 0)], [.row (hR l)]), fun k => 65 - k, ⟨0, ⟨by omega, rfl⟩, ?_⟩, ?_⟩
  · all_goals refine ⟨[], ?_⟩
    repeat (any_goals (first | exact True.intro | exact rfl | with_reducible_and_instances rfl | exact (by kernel_rfl) | refine And.intro ?_ ?_))
    all_goals conv => whnf
  rintro k ⟨hk, ho⟩
  conv => whnf
  by_cases hlt : k < 65
  · have hx : l[k]? = some l[k] := List.getElem?_eq_getElem (by omega)
    generalize l[k] = x at hx
    have ha : okH (l.take (k + 1)) = decide (0 ≤ x) := by unfold okH at *; rw [all_take hx, ho, Bool.true_and]
    repeat (any_goals (first
      | exact True.intro
      | (refine ⟨k, rfl, hlt, ?_⟩; conv => whnf)
      | (refine ⟨_, rfl, _, _, drop_row hx, ?_⟩; conv => whnf)
      | (refine Or.inl ?_; conv => whnf)
      | (refine And.intro (fun _ => ?_) tf; conv => whnf)
      | (refine And.intro ft (fun _ => ?_); conv => whnf)
      | (refine And.intro (by kernel_rfl) ?_; conv => whnf)
      | (refine And.intro (by decide) ?_; conv => whnf)
      | (refine And.intro (fun _ => ?_) (fun h => absurd h (by decide)); conv => whnf)
      | (refine And.intro (fun h => absurd h (by decide)) (fun _ => ?_); conv => whnf)
      | (refine And.intro (fun _ => ?_) (fun _ => ?_) <;> conv => whnf)))
    all_goals try (exfalso; simp only [decide_eq_true_eq, decide_eq_false_iff_not, Bool.not_eq_true', Bool.not_eq_false', Bool.not_eq_true, Bool.not_eq_false, beq_iff_eq, bne_iff_ne, beq_eq_false_iff_ne, bne_eq_false_iff_eq, ne_eq, Decidable.not_not] at *; first | omega | contradiction | (simp_all; done) | (simp_all; omega))
    · have hr : okH l = false := by
        have h0 : x < 0 := (by (try simp only [decide_eq_true_eq, decide_eq_false_iff_not, Bool.not_eq_true', Bool.not_eq_false', Bool.not_eq_true, Bool.not_eq_false, beq_iff_eq, bne_iff_ne, beq_eq_false_iff_ne, bne_eq_false_iff_eq, ne_eq, Decidable.not_not, Int.natCast_eq_zero] at *); first | omega | assumption | (simp_all; done) | (simp_all; omega))
        rw [← List.take_append_drop (k + 1) l]
        unfold okH at *
        rw [List.all_append, ha, decide_eq_false (by omega)]; rfl
      rw [hr]
      all_goals refine ⟨[], ?_⟩
      repeat (any_goals (first | exact True.intro | exact rfl | with_reducible_and_instances rfl | exact (by kernel_rfl) | refine And.intro ?_ ?_))
      all_goals conv => whnf
    · have h0 : ¬ x < 0 := (by (try simp only [decide_eq_true_eq, decide_eq_false_iff_not, Bool.not_eq_true', Bool.not_eq_false', Bool.not_eq_true, Bool.not_eq_false, beq_iff_eq, bne_iff_ne, beq_eq_false_iff_ne, bne_eq_false_iff_eq, ne_eq, Decidable.not_not, Int.natCast_eq_zero] at *); first | omega | assumption | (simp_all; done) | (simp_all; omega))
      refine ⟨k + 1, ⟨hlt, by rw [ha]; exact decide_eq_true (by omega)⟩, show 65 - (k + 1) < 65 - k by omega, ?_⟩
      all_goals refine ⟨[], ?_⟩
      repeat (any_goals (first | exact True.intro | exact rfl | with_reducible_and_instances rfl | exact (by kernel_rfl) | refine And.intro ?_ ?_))
      all_goals conv => whnf
      exact wk1 (by omega)
  · have hke : k = 65 := by omega
    subst hke
    rw [List.take_of_length_le (by omega)] at ho
    rw [ho]
    repeat (any_goals (first
      | exact True.intro
      | (refine Or.inl ?_; conv => whnf)
      | (refine And.intro (fun _ => ?_) tf; conv => whnf)
      | (refine And.intro ft (fun _ => ?_); conv => whnf)
      | (refine And.intro (by kernel_rfl) ?_; conv => whnf)
      | (refine And.intro (by decide) ?_; conv => whnf)
      | (refine And.intro (fun _ => ?_) (fun h => absurd h (by decide)); conv => whnf)
      | (refine And.intro (fun h => absurd h (by decide)) (fun _ => ?_); conv => whnf)
      | (refine And.intro (fun _ => ?_) (fun _ => ?_) <;> conv => whnf)))
    all_goals try (exfalso; simp only [decide_eq_true_eq, decide_eq_false_iff_not, Bool.not_eq_true', Bool.not_eq_false', Bool.not_eq_true, Bool.not_eq_false, beq_iff_eq, bne_iff_ne, beq_eq_false_iff_ne, bne_eq_false_iff_eq, ne_eq, Decidable.not_not] at *; first | omega | contradiction | (simp_all; done) | (simp_all; omega))
    all_goals refine ⟨[], ?_⟩
    repeat (any_goals (first | exact True.intro | exact rfl | with_reducible_and_instances rfl | exact (by kernel_rfl) | refine And.intro ?_ ?_))
    all_goals conv => whnf
theorem sets_row {l : List Int} {k : Nat} (x : Int) (hk : k < l.length) : sets (hR l) (0 + k * 1) [iD x] = hR (l.set k x) := by
  rw [Nat.zero_add, Nat.mul_one]
  show (hR l).set k (iD x) = _
  unfold hR
  rw [List.map_set]
theorem s68 : (tiOf Try.prog 26).size = 65 := by kernel_rfl
theorem whole_row {s : Nat} {h : List Int} (hs : s = 65) (hl : h.length = 65) : ((hR h).drop 0).take s = hR h := by
  rw [List.drop_zero, List.take_of_length_le (by rw [hR_len]; omega)]
theorem whole_len {s : Nat} {h : List Int} (hs : s = 65) (hl : h.length = 65) : (hR h).length = s := by rw [hR_len]; omega
theorem rows_whole {l h : List Int} (hl : l.length = 65) (hh : h.length = 65) : sets (hR l) 0 (hR h) = hR h := by
  rw [sets_eq _ _ _ (by rw [hR_len, hR_len]; omega), List.drop_of_length_le (by rw [hR_len, hR_len]; omega)]
  simp
theorem sets_fit {l h : List Int} (hl : l.length = 65) (hh : h.length = 65) : 0 + (hR h).length ≤ (hR l).length := by rw [hR_len, hR_len]; omega
theorem z65_len : z65.length = 65 := rfl
theorem histL_small (l : List Int) {b : Nat} {y : Int} (h : (histL l)[b]? = some y) : 0 ≤ y ∧ y ≤ l.length := histL_mem l y (List.mem_of_getElem? h)
theorem histL_succ {l : List Int} {k : Nat} {x : Int} (hx : l[k]? = some x) : histL (l.take (k + 1)) = bump (histL (l.take k)) (bkt x) := by
  rw [List.take_add_one, hx]; exact histL_snoc _ _
theorem refOf_sat (l : List Int) (hl : ∀ z ∈ l, in64 z) (hn : l.length ≤ 1000000) : Sat Try.prog 31 [.d (lD l)] [] (.d (hD (histL l))) [] := by
  have hm : (l.map lR).length = l.length := List.length_map _
  refine sat_of_vc (T := tiOf Try.prog) (E := E0) Try.func31 rfl rfl hE0 hm0 rfl ?_
  conv => whnf
  repeat (any_goals (first
    | exact True.intro
    | (refine ⟨hR z65, by kernel_rfl, ?_⟩; conv => whnf)
    | (refine And.intro (by decide +kernel) ?_; conv => whnf)
    | (refine Or.inl ?_; conv => whnf)
    | (refine And.intro (fun _ => ?_) tf; conv => whnf)
    | (refine And.intro ft (fun _ => ?_); conv => whnf)
    | (refine And.intro (by kernel_rfl) ?_; conv => whnf)
    | (refine And.intro (by decide) ?_; conv => whnf)
    | (refine And.intro (fun _ => ?_) (fun h => absurd h (by decide)); conv => whnf)
    | (refine And.intro (fun h => absurd h (by decide)) (fun _ => ?_); conv => whnf)
    | (refine And.intro (fun _ => ?_) (fun _ => ?_) <;> conv => whnf)))
  refine ⟨Nat × List Int, fun y => y.1 ≤ l.length ∧ y.2 = histL (l.take y.1), fun y => ([(4, iA y.1), (3, .ptr 1 0), (2, .ptr 0 0), (0, .d (lD l))], [.row (hR z65), .row (hR y.2)]), fun y => l.length - y.1, ⟨(0, z65), ⟨Nat.zero_le _, rfl⟩, ?_⟩, ?_⟩
  · all_goals refine ⟨[], ?_⟩
    repeat (any_goals (first | exact True.intro | exact rfl | with_reducible_and_instances rfl | exact (by kernel_rfl) | refine And.intro ?_ ?_))
    all_goals conv => whnf
  rintro ⟨k, h⟩ ⟨(hk : k ≤ l.length), (hh : h = histL (l.take k))⟩
  have h65 : h.length = 65 := by rw [hh]; exact histL_len _
  conv => whnf
  by_cases hlt : k < l.length
  · have hx : l[k]? = some l[k] := List.getElem?_eq_getElem hlt
    have hz := hl _ (List.mem_of_getElem? hx)
    generalize l[k] = x at hx hz
    have hb := bkt_lt x hz.2
    have b1 := refBucket_sat x hz
    have hy : h[bkt x]? = some h[bkt x] := List.getElem?_eq_getElem (by omega)
    have hs := histL_succ hx
    rw [← hh] at hs
    have hsm : 0 ≤ h[bkt x] ∧ h[bkt x] ≤ (l.take k).length := histL_small (l.take k) (b := bkt x) (by rw [← hh]; exact hy)
    rw [List.length_take] at hsm
    have hbu : bump h (bkt x) = h.set (bkt x) (h[bkt x] + 1) := by unfold bump; rw [hy]; rfl
    generalize h[bkt x] = y at hy hsm hbu
    have hw : IntKind.i64.wrap (y + 1) = y + 1 := wi (by omega) (by omega)
    have hst : 0 + bkt x * 1 + 1 ≤ (hR h).length := by rw [hR_len]; omega
    have hse := sets_row (l := h) (k := bkt x) (y + 1) (by omega)
    rw [← hbu, ← hs] at hse
    rw [← hw] at hse
    repeat (any_goals (first
      | exact True.intro
      | (refine ⟨k, _, rfl, map_get hx, ?_⟩; conv => whnf)
      | (refine ⟨bkt x, rfl, hb, ?_⟩; conv => whnf)
      | (refine ⟨_, rfl, _, _, drop_row hy, ?_⟩; conv => whnf)
      | (refine And.intro hst ?_; conv => whnf)
      | (refine ⟨_, hse, ?_⟩; conv => whnf)
      | (refine Or.inl ?_; conv => whnf)
      | (refine And.intro (fun _ => ?_) tf; conv => whnf)
      | (refine And.intro ft (fun _ => ?_); conv => whnf)
      | (refine And.intro (by kernel_rfl) ?_; conv => whnf)
      | (refine And.intro (by decide) ?_; conv => whnf)
      | (refine And.intro (fun _ => ?_) (fun h => absurd h (by decide)); conv => whnf)
      | (refine And.intro (fun h => absurd h (by decide)) (fun _ => ?_); conv => whnf)
      | (refine And.intro (fun _ => ?_) (fun _ => ?_) <;> conv => whnf)
      | (refine ⟨_, _, b1.pu rfl rfl, ?_⟩; conv => whnf)))
    all_goals try (exfalso; simp only [decide_eq_true_eq, decide_eq_false_iff_not, Bool.not_eq_true', Bool.not_eq_false', Bool.not_eq_true, Bool.not_eq_false, beq_iff_eq, bne_iff_ne, beq_eq_false_iff_ne, bne_eq_false_iff_eq, ne_eq, Decidable.not_not] at *; first | omega | contradiction | (simp_all; done) | (simp_all; omega))
    refine ⟨(k + 1, histL (l.take (k + 1))), ⟨hlt, rfl⟩, show l.length - (k + 1) < l.length - k by omega, ?_⟩
    all_goals refine ⟨[], ?_⟩
    repeat (any_goals (first | exact True.intro | exact rfl | with_reducible_and_instances rfl | exact (by kernel_rfl) | refine And.intro ?_ ?_))
    all_goals conv => whnf
    exact wk1 (show k ≤ _ by omega)
  · have hke : k = l.length := by omega
    subst hke
    rw [List.take_length] at hh
    subst hh
    repeat (any_goals (first
      | exact True.intro
      | (refine And.intro (whole_len s68 h65) ?_; conv => whnf)
      | (refine ⟨_, whole_row s68 h65, whole_len s68 h65, ?_⟩; conv => whnf)
      | (refine And.intro (sets_fit z65_len h65) ?_; conv => whnf)
      | (refine ⟨_, rows_whole z65_len h65, ?_⟩; conv => whnf)
      | (refine ⟨_, rfl, ?_⟩; conv => whnf)
      | (refine Or.inl ?_; conv => whnf)
      | (refine And.intro (fun _ => ?_) tf; conv => whnf)
      | (refine And.intro ft (fun _ => ?_); conv => whnf)
      | (refine And.intro (by kernel_rfl) ?_; conv => whnf)
      | (refine And.intro (by decide) ?_; conv => whnf)
      | (refine And.intro (fun _ => ?_) (fun h => absurd h (by decide)); conv => whnf)
      | (refine And.intro (fun h => absurd h (by decide)) (fun _ => ?_); conv => whnf)
      | (refine And.intro (fun _ => ?_) (fun _ => ?_) <;> conv => whnf)))
    all_goals try (exfalso; simp only [decide_eq_true_eq, decide_eq_false_iff_not, Bool.not_eq_true', Bool.not_eq_false', Bool.not_eq_true, Bool.not_eq_false, beq_iff_eq, bne_iff_ne, beq_eq_false_iff_ne, bne_eq_false_iff_eq, ne_eq, Decidable.not_not] at *; first | omega | contradiction | (simp_all; done) | (simp_all; omega))
    all_goals refine ⟨[], ?_⟩
    repeat (any_goals (first | exact True.intro | exact rfl | with_reducible_and_instances rfl | exact (by kernel_rfl) | refine And.intro ?_ ?_))
    all_goals conv => whnf
def col (ls : List (List Int)) (k : Nat) : List Int := ls.map fun l => l[k]?.getD 0
theorem col_sum (ls : List (List Int)) (k : Nat) : (col ls k).sum = sumAt ls k := rfl
theorem col_succ {ls : List (List Int)} {i k : Nat} {l : List Int} (h : ls[i]? = some l) : col (ls.take (i + 1)) k = col (ls.take i) k ++ [l[k]?.getD 0] := by
  unfold col; rw [List.take_add_one, h]; simp
def partL (ls : List (List Int)) (k : Nat) : List Int := (List.range 65).map fun j => if j < k then sumAt ls j else 0
theorem partL_len (ls : List (List Int)) (k : Nat) : (partL ls k).length = 65 := by simp [partL]
theorem partL_set (ls : List (List Int)) {k : Nat} (hk : k < 65) : (partL ls k).set k (sumAt ls k) = partL ls (k + 1) := by
  apply List.ext_getElem?
  intro j
  unfold partL
  rw [List.getElem?_set]
  by_cases hj : j < 65
  · simp only [List.length_map, List.length_range, List.getElem?_map, List.getElem?_range hj, Option.map_some]
    by_cases e : k = j
    · subst e; simp [hk]
    · simp only [e, if_false]
      congr 1
      by_cases h : j < k
      · rw [if_pos h, if_pos (by omega)]
      · rw [if_neg h, if_neg (by omega)]
  · have : k ≠ j := by omega
    rw [if_neg this, List.getElem?_eq_none (by simp; omega), List.getElem?_eq_none (by simp; omega)]
theorem partL_zero (ls : List (List Int)) : partL ls 0 = z65 := by
  unfold partL z65
  apply List.ext_getElem?
  intro j
  rw [List.getElem?_map, List.getElem?_replicate]
  by_cases hj : j < 65
  · rw [List.getElem?_range hj]; simp [hj]
  · rw [List.getElem?_eq_none (by simp; omega)]; simp [hj]
theorem partL_all (ls : List (List Int)) : partL ls 65 = mergeL ls := by
  unfold partL mergeL
  apply List.map_congr_left
  intro j hj
  rw [if_pos (List.mem_range.1 hj)]
theorem hR_take {s : Nat} {h : List Int} (hs : s = 65) (hl : h.length = 65) : (hR h).take s = hR h := List.take_of_length_le (by rw [hR_len]; omega)
theorem merge_form {ls : List (List Int)} (h : ls.all okH = false) : mergeE ls = 10 ∧ mergeR ls = z65 := by
  have : mergeE ls = 10 := by unfold mergeE; rw [if_pos h]
  exact ⟨this, by unfold mergeR; rw [this]; rfl⟩
theorem merge_over {ls : List (List Int)} (h : ls.all okH = true) {k : Nat} (hk : k < 65) (hs : 9223372036854775807 < sumAt ls k) : mergeE ls = 12 ∧ mergeR ls = z65 := by
  have : mergeE ls = 12 := by
    unfold mergeE
    rw [if_neg (by simp [h]), if_pos (List.any_eq_true.2 ⟨k, List.mem_range.2 hk, decide_eq_true hs⟩)]
  exact ⟨this, by unfold mergeR; rw [this]; rfl⟩
theorem merge_fine {ls : List (List Int)} (h : ls.all okH = true) (hs : ∀ k, k < 65 → sumAt ls k ≤ 9223372036854775807) : mergeE ls = 0 ∧ mergeR ls = mergeL ls := by
  have : mergeE ls = 0 := by
    unfold mergeE
    rw [if_neg (by simp [h]), if_neg]
    intro q
    obtain ⟨k, h1, h2⟩ := List.any_eq_true.1 q
    have := hs k (List.mem_range.1 h1)
    have := of_decide_eq_true h2
    omega
  exact ⟨this, by unfold mergeR; rw [this]; rfl⟩
set_option maxHeartbeats 400000 in
theorem refMerge_sat (ls : List (List Int)) (hl : ∀ l ∈ ls, l.length = 65) (hx : ∀ l ∈ ls, ∀ z ∈ l, in64 z) (hn : ls.length ≤ 1000) : Sat Try.prog 89 [.d (.sl 65 (ls.map hR))] [] (.tup [.d (hD (mergeR ls)), iA (mergeE ls)]) [] := by
  have hm : (ls.map hR).length = ls.length := List.length_map _
  refine sat_of_vc (T := tiOf Try.prog) (E := E0) Try.func89 rfl rfl hE0 hm0 rfl ?_
  conv => whnf
  repeat (any_goals (first
    | exact True.intro
    | (refine ⟨hR z65, by kernel_rfl, ?_⟩; conv => whnf)
    | (refine And.intro (by decide +kernel) ?_; conv => whnf)
    | (refine And.intro (fun _ => ?_) tf; conv => whnf)
    | (refine And.intro ft (fun _ => ?_); conv => whnf)
    | (refine And.intro (by kernel_rfl) ?_; conv => whnf)
    | (refine And.intro (by decide) ?_; conv => whnf)
    | (refine And.intro (fun _ => ?_) (fun h => absurd h (by decide)); conv => whnf)
    | (refine And.intro (fun h => absurd h (by decide)) (fun _ => ?_); conv => whnf)
    | (refine And.intro (fun _ => ?_) (fun _ => ?_) <;> conv => whnf)))
  all_goals try (refine Or.inl ?_; conv => whnf)
  repeat (any_goals (first
    | exact True.intro
    | (refine ⟨hR z65, by kernel_rfl, ?_⟩; conv => whnf)
    | (refine And.intro (by decide +kernel) ?_; conv => whnf)
    | (refine And.intro (fun _ => ?_) tf; conv => whnf)
    | (refine And.intro ft (fun _ => ?_); conv => whnf)
    | (refine And.intro (by kernel_rfl) ?_; conv => whnf)
    | (refine And.intro (by decide) ?_; conv => whnf)
    | (refine And.intro (fun _ => ?_) (fun h => absurd h (by decide)); conv => whnf)
    | (refine And.intro (fun h => absurd h (by decide)) (fun _ => ?_); conv => whnf)
    | (refine And.intro (fun _ => ?_) (fun _ => ?_) <;> conv => whnf)))
  refine ⟨Nat, fun i => i ≤ ls.length ∧ (ls.take i).all okH = true, fun i => ([(5, iA i), (4, .ptr 1 0), (3, iA 0), (2, .ptr 0 0), (0, .d (.sl 65 (ls.map hR)))], [.row (hR z65), .row (hR z65)]), fun i => ls.length - i, ⟨0, ⟨Nat.zero_le _, rfl⟩, ?_⟩, ?_⟩
  · all_goals refine ⟨[], ?_⟩
    repeat (any_goals (first | exact True.intro | exact rfl | with_reducible_and_instances rfl | exact (by kernel_rfl) | refine And.intro ?_ ?_))
    all_goals conv => whnf
  rintro i ⟨hi, hok⟩
  conv => whnf
  by_cases hlt : i < ls.length
  · have hx1 : ls[i]? = some ls[i] := List.getElem?_eq_getElem hlt
    have hl1 := hl _ (List.mem_of_getElem? hx1)
    generalize ls[i] = l at hx1 hl1
    have r1 := refRight_sat l hl1
    have ha : (ls.take (i + 1)).all okH = okH l := by rw [List.take_add_one, hx1, List.all_append, hok]; simp
    repeat (any_goals (first
      | exact True.intro
      | (refine And.intro (whole_len s68 hl1) ?_; conv => whnf)
      | (refine ⟨i, _, rfl, map_get hx1, ?_⟩; conv => whnf)
      | (refine ⟨_, hR_take s68 hl1, whole_len s68 hl1, ?_⟩; conv => whnf)
      | (refine ⟨hR z65, by kernel_rfl, ?_⟩; conv => whnf)
      | (refine And.intro (sets_fit z65_len z65_len) ?_; conv => whnf)
      | (refine ⟨_, rows_whole z65_len z65_len, ?_⟩; conv => whnf)
      | (refine Or.inl ?_; conv => whnf)
      | (refine And.intro (fun _ => ?_) tf; conv => whnf)
      | (refine And.intro ft (fun _ => ?_); conv => whnf)
      | (refine And.intro (by kernel_rfl) ?_; conv => whnf)
      | (refine And.intro (by decide) ?_; conv => whnf)
      | (refine And.intro (fun _ => ?_) (fun h => absurd h (by decide)); conv => whnf)
      | (refine And.intro (fun h => absurd h (by decide)) (fun _ => ?_); conv => whnf)
      | (refine And.intro (fun _ => ?_) (fun _ => ?_) <;> conv => whnf)
      | (refine ⟨_, _, r1.pu rfl rfl, ?_⟩; conv => whnf)))
    all_goals try (exfalso; simp only [decide_eq_true_eq, decide_eq_false_iff_not, Bool.not_eq_true', Bool.not_eq_false', Bool.not_eq_true, Bool.not_eq_false, beq_iff_eq, bne_iff_ne, beq_eq_false_iff_ne, bne_eq_false_iff_eq, ne_eq, Decidable.not_not] at *; first | omega | contradiction | (simp_all; done) | (simp_all; omega))
    · have ho : okH l = false := by cases h : okH l <;> simp_all
      obtain ⟨e1, e2⟩ := merge_form (ls := ls) (by
        rw [← List.take_append_drop (i + 1) ls, List.all_append, ha, ho]; rfl)
      rw [e1, e2]
      all_goals refine ⟨[], ?_⟩
      repeat (any_goals (first | exact True.intro | exact rfl | with_reducible_and_instances rfl | exact (by kernel_rfl) | refine And.intro ?_ ?_))
      all_goals conv => whnf
    · have ho : okH l = true := by cases h : okH l <;> simp_all
      refine ⟨i + 1, ⟨hlt, by rw [ha]; exact ho⟩, show ls.length - (i + 1) < ls.length - i by omega, ?_⟩
      all_goals refine ⟨[], ?_⟩
      repeat (any_goals (first | exact True.intro | exact rfl | with_reducible_and_instances rfl | exact (by kernel_rfl) | refine And.intro ?_ ?_))
      all_goals conv => whnf
      exact wk1 (by omega)
  · have hie : i = ls.length := by omega
    subst hie
    rw [List.take_length] at hok
    repeat (any_goals (first
      | exact True.intro
      | (refine And.intro (fun _ => ?_) tf; conv => whnf)
      | (refine And.intro ft (fun _ => ?_); conv => whnf)
      | (refine And.intro (by kernel_rfl) ?_; conv => whnf)
      | (refine And.intro (by decide) ?_; conv => whnf)
      | (refine And.intro (fun _ => ?_) (fun h => absurd h (by decide)); conv => whnf)
      | (refine And.intro (fun h => absurd h (by decide)) (fun _ => ?_); conv => whnf)
      | (refine And.intro (fun _ => ?_) (fun _ => ?_) <;> conv => whnf)))
    all_goals try (refine Or.inl ?_; conv => whnf)
    repeat (any_goals (first
      | exact True.intro
      | (refine And.intro (fun _ => ?_) tf; conv => whnf)
      | (refine And.intro ft (fun _ => ?_); conv => whnf)
      | (refine And.intro (by kernel_rfl) ?_; conv => whnf)
      | (refine And.intro (by decide) ?_; conv => whnf)
      | (refine And.intro (fun _ => ?_) (fun h => absurd h (by decide)); conv => whnf)
      | (refine And.intro (fun h => absurd h (by decide)) (fun _ => ?_); conv => whnf)
      | (refine And.intro (fun _ => ?_) (fun _ => ?_) <;> conv => whnf)))
    all_goals try (exfalso; simp only [decide_eq_true_eq, decide_eq_false_iff_not, Bool.not_eq_true', Bool.not_eq_false', Bool.not_eq_true, Bool.not_eq_false, beq_iff_eq, bne_iff_ne, beq_eq_false_iff_ne, bne_eq_false_iff_eq, ne_eq, Decidable.not_not] at *; first | omega | contradiction | (simp_all; done) | (simp_all; omega))
    all_goals try (refine Or.inl ?_; conv => whnf)
    repeat (any_goals (first
      | exact True.intro
      | (refine And.intro (fun _ => ?_) tf; conv => whnf)
      | (refine And.intro ft (fun _ => ?_); conv => whnf)
      | (refine And.intro (by kernel_rfl) ?_; conv => whnf)
      | (refine And.intro (by decide) ?_; conv => whnf)
      | (refine And.intro (fun _ => ?_) (fun h => absurd h (by decide)); conv => whnf)
      | (refine And.intro (fun h => absurd h (by decide)) (fun _ => ?_); conv => whnf)
      | (refine And.intro (fun _ => ?_) (fun _ => ?_) <;> conv => whnf)))
    all_goals try (refine Or.inl ?_; conv => whnf)
    repeat (any_goals (first
      | exact True.intro
      | (refine And.intro (fun _ => ?_) tf; conv => whnf)
      | (refine And.intro ft (fun _ => ?_); conv => whnf)
      | (refine And.intro (by kernel_rfl) ?_; conv => whnf)
      | (refine And.intro (by decide) ?_; conv => whnf)
      | (refine And.intro (fun _ => ?_) (fun h => absurd h (by decide)); conv => whnf)
      | (refine And.intro (fun h => absurd h (by decide)) (fun _ => ?_); conv => whnf)
      | (refine And.intro (fun _ => ?_) (fun _ => ?_) <;> conv => whnf)))
    all_goals try (refine Or.inl ?_; conv => whnf)
    repeat (any_goals (first
      | exact True.intro
      | (refine And.intro (fun _ => ?_) tf; conv => whnf)
      | (refine And.intro ft (fun _ => ?_); conv => whnf)
      | (refine And.intro (by kernel_rfl) ?_; conv => whnf)
      | (refine And.intro (by decide) ?_; conv => whnf)
      | (refine And.intro (fun _ => ?_) (fun h => absurd h (by decide)); conv => whnf)
      | (refine And.intro (fun h => absurd h (by decide)) (fun _ => ?_); conv => whnf)
      | (refine And.intro (fun _ => ?_) (fun _ => ?_) <;> conv => whnf)))
    refine ⟨Nat × List Int, fun y => (y.1 ≤ 65 ∧ ∀ j, j < y.1 → sumAt ls j ≤ 9223372036854775807) ∧ y.2 = partL ls y.1, fun y => ([(6, iA y.1), (4, .ptr 1 0), (3, iA 0), (2, .ptr 0 0), (0, .d (.sl 65 (ls.map hR)))], [.row (hR z65), .row (hR y.2)]), fun y => 65 - y.1, ⟨(0, z65), ⟨⟨by omega, fun j (hj : j < 0) => by omega⟩, (partL_zero ls).symm⟩, ?_⟩, ?_⟩
    · all_goals refine ⟨[], ?_⟩
      repeat (any_goals (first | exact True.intro | exact rfl | with_reducible_and_instances rfl | exact (by kernel_rfl) | refine And.intro ?_ ?_))
      all_goals conv => whnf
    rintro ⟨k, p⟩ ⟨⟨(hk : k ≤ 65), (hsm : ∀ j, j < k → sumAt ls j ≤ 9223372036854775807)⟩, (hp : p = partL ls k)⟩
    have p65 : p.length = 65 := by rw [hp]; exact partL_len ls k
    conv => whnf
    by_cases hk6 : k < 65
    · have hcol : ∀ z ∈ col ls k, in64 z := by
        intro z hz
        obtain ⟨l, h1, rfl⟩ := List.mem_map.1 hz
        have h2 := hl l h1
        rw [List.getElem?_eq_getElem (by omega)]
        exact hx l h1 _ (List.getElem_mem _)
      have hcl : (col ls k).length = ls.length := List.length_map _
      have hnn := sumAt_nonneg ls k hok
      have su := sum_num (col ls k) hcol (by omega)
      rw [col_sum] at su
      repeat (any_goals (first
        | exact True.intro
        | (refine And.intro (fun _ => ?_) (fun h => absurd h (by simpa using hk6)); conv => whnf)
        | (refine And.intro (fun _ => ?_) tf; conv => whnf)
        | (refine And.intro ft (fun _ => ?_); conv => whnf)
        | (refine And.intro (by kernel_rfl) ?_; conv => whnf)
        | (refine And.intro (by decide) ?_; conv => whnf)
        | (refine And.intro (fun _ => ?_) (fun h => absurd h (by decide)); conv => whnf)
        | (refine And.intro (fun h => absurd h (by decide)) (fun _ => ?_); conv => whnf)
        | (refine And.intro (fun _ => ?_) (fun _ => ?_) <;> conv => whnf)))
      all_goals try (refine Or.inl ?_; conv => whnf)
      repeat (any_goals (first
        | exact True.intro
        | (refine And.intro (fun _ => ?_) (fun h => absurd h (by simpa using hk6)); conv => whnf)
        | (refine And.intro (fun _ => ?_) tf; conv => whnf)
        | (refine And.intro ft (fun _ => ?_); conv => whnf)
        | (refine And.intro (by kernel_rfl) ?_; conv => whnf)
        | (refine And.intro (by decide) ?_; conv => whnf)
        | (refine And.intro (fun _ => ?_) (fun h => absurd h (by decide)); conv => whnf)
        | (refine And.intro (fun h => absurd h (by decide)) (fun _ => ?_); conv => whnf)
        | (refine And.intro (fun _ => ?_) (fun _ => ?_) <;> conv => whnf)))
      all_goals try (refine Or.inl ?_; conv => whnf)
      repeat (any_goals (first
        | exact True.intro
        | (refine And.intro (fun _ => ?_) tf; conv => whnf)
        | (refine And.intro ft (fun _ => ?_); conv => whnf)
        | (refine And.intro (by kernel_rfl) ?_; conv => whnf)
        | (refine And.intro (by decide) ?_; conv => whnf)
        | (refine And.intro (fun _ => ?_) (fun h => absurd h (by decide)); conv => whnf)
        | (refine And.intro (fun h => absurd h (by decide)) (fun _ => ?_); conv => whnf)
        | (refine And.intro (fun _ => ?_) (fun _ => ?_) <;> conv => whnf)))
      all_goals try (refine Or.inl ?_; conv => whnf)
      repeat (any_goals (first
        | exact True.intro
        | (refine And.intro (fun _ => ?_) tf; conv => whnf)
        | (refine And.intro ft (fun _ => ?_); conv => whnf)
        | (refine And.intro (by kernel_rfl) ?_; conv => whnf)
        | (refine And.intro (by decide) ?_; conv => whnf)
        | (refine And.intro (fun _ => ?_) (fun h => absurd h (by decide)); conv => whnf)
        | (refine And.intro (fun h => absurd h (by decide)) (fun _ => ?_); conv => whnf)
        | (refine And.intro (fun _ => ?_) (fun _ => ?_) <;> conv => whnf)))
      all_goals try (exfalso; simp only [decide_eq_true_eq, decide_eq_false_iff_not, Bool.not_eq_true', Bool.not_eq_false', Bool.not_eq_true, Bool.not_eq_false, beq_iff_eq, bne_iff_ne, beq_eq_false_iff_ne, bne_eq_false_iff_eq, ne_eq, Decidable.not_not] at *; first | omega | contradiction | (simp_all; done) | (simp_all; omega))
      refine ⟨Nat, fun i => i ≤ ls.length, fun i => ([(8, iA i), (7, .own 2), (6, iA k), (4, .ptr 1 0), (3, iA 0), (2, .ptr 0 0), (0, .d (.sl 65 (ls.map hR)))], [.row (hR z65), .row (hR p), .sl 1 ((col (ls.take i) k).map lR)]), fun i => ls.length - i, ⟨0, Nat.zero_le _, ?_⟩, ?_⟩
      · all_goals refine ⟨[], ?_⟩
        repeat (any_goals (first | exact True.intro | exact rfl | with_reducible_and_instances rfl | exact (by kernel_rfl) | refine And.intro ?_ ?_))
        all_goals conv => whnf
      intro i hi
      have hi : i ≤ ls.length := hi
      have hci : ((col (ls.take i) k).map lR).length = i := by unfold col; simp; omega
      conv => whnf
      by_cases hlt : i < ls.length
      · have hx1 : ls[i]? = some ls[i] := List.getElem?_eq_getElem hlt
        have hl1 := hl _ (List.mem_of_getElem? hx1)
        generalize ls[i] = l at hx1 hl1
        have hx2 : l[k]? = some l[k] := List.getElem?_eq_getElem (by omega)
        have hc := col_succ (k := k) hx1
        rw [hx2, Option.getD_some] at hc
        generalize l[k] = x at hx2 hc
        have hdr : (hR l).drop (k * 1) = iD x :: (hR l).drop (k + 1) := by rw [← drop_row hx2, Nat.zero_add]
        repeat (any_goals (first
          | exact True.intro
          | (refine ⟨i, _, rfl, map_get hx1, ?_⟩; conv => whnf)
          | (refine ⟨k, _, rfl, hk6, hdr, ?_⟩; conv => whnf)
          | (refine Or.inl ?_; conv => whnf)
          | (refine And.intro (fun _ => ?_) tf; conv => whnf)
          | (refine And.intro ft (fun _ => ?_); conv => whnf)
          | (refine And.intro (by kernel_rfl) ?_; conv => whnf)
          | (refine And.intro (by decide) ?_; conv => whnf)
          | (refine And.intro (fun _ => ?_) (fun h => absurd h (by decide)); conv => whnf)
          | (refine And.intro (fun h => absurd h (by decide)) (fun _ => ?_); conv => whnf)
          | (refine And.intro (fun _ => ?_) (fun _ => ?_) <;> conv => whnf)
          | (refine ⟨_, _, ap 1 8 (by kernel_rfl) rfl rfl (by simp [hci]; omega), ?_⟩; conv => whnf)))
        all_goals try (exfalso; simp only [decide_eq_true_eq, decide_eq_false_iff_not, Bool.not_eq_true', Bool.not_eq_false', Bool.not_eq_true, Bool.not_eq_false, beq_iff_eq, bne_iff_ne, beq_eq_false_iff_ne, bne_eq_false_iff_eq, ne_eq, Decidable.not_not] at *; first | omega | contradiction | (simp_all; done) | (simp_all; omega))
        refine ⟨i + 1, hlt, show ls.length - (i + 1) < ls.length - i by omega, ?_⟩
        all_goals refine ⟨[(2, 4)], ?_⟩
        repeat (any_goals (first | exact True.intro | exact rfl | with_reducible_and_instances rfl | exact (by kernel_rfl) | refine And.intro ?_ ?_))
        all_goals conv => whnf
        · exact wk1 (by omega)
        · rw [hc, List.map_append]; rfl
      · have hie : i = ls.length := by omega
        subst hie
        rw [show col ls k = col (ls.take ls.length) k by rw [List.take_length]] at su
        repeat (any_goals (first
          | exact True.intro
          | (refine And.intro (fun _ => ?_) tf; conv => whnf)
          | (refine And.intro ft (fun _ => ?_); conv => whnf)
          | (refine And.intro (by kernel_rfl) ?_; conv => whnf)
          | (refine And.intro (by decide) ?_; conv => whnf)
          | (refine And.intro (fun _ => ?_) (fun h => absurd h (by decide)); conv => whnf)
          | (refine And.intro (fun h => absurd h (by decide)) (fun _ => ?_); conv => whnf)
          | (refine And.intro (fun _ => ?_) (fun _ => ?_) <;> conv => whnf)
          | (refine ⟨_, _, frz_a su rfl rfl, ?_⟩; conv => whnf)))
        all_goals try (exfalso; simp only [decide_eq_true_eq, decide_eq_false_iff_not, Bool.not_eq_true', Bool.not_eq_false', Bool.not_eq_true, Bool.not_eq_false, beq_iff_eq, bne_iff_ne, beq_eq_false_iff_ne, bne_eq_false_iff_eq, ne_eq, Decidable.not_not] at *; first | omega | contradiction | (simp_all; done) | (simp_all; omega))
        all_goals try (refine Or.inl ?_; conv => whnf)
        repeat (any_goals (first
          | exact True.intro
          | (refine And.intro (fun _ => ?_) tf; conv => whnf)
          | (refine And.intro ft (fun _ => ?_); conv => whnf)
          | (refine And.intro (by kernel_rfl) ?_; conv => whnf)
          | (refine And.intro (by decide) ?_; conv => whnf)
          | (refine And.intro (fun _ => ?_) (fun h => absurd h (by decide)); conv => whnf)
          | (refine And.intro (fun h => absurd h (by decide)) (fun _ => ?_); conv => whnf)
          | (refine And.intro (fun _ => ?_) (fun _ => ?_) <;> conv => whnf)
          | (refine ⟨_, _, frz_a su rfl rfl, ?_⟩; conv => whnf)))
        all_goals try (exfalso; simp only [decide_eq_true_eq, decide_eq_false_iff_not, Bool.not_eq_true', Bool.not_eq_false', Bool.not_eq_true, Bool.not_eq_false, beq_iff_eq, bne_iff_ne, beq_eq_false_iff_ne, bne_eq_false_iff_eq, ne_eq, Decidable.not_not] at *; first | omega | contradiction | (simp_all; done) | (simp_all; omega))
        all_goals try (refine Or.inl ?_; conv => whnf)
        repeat (any_goals (first
          | exact True.intro
          | (refine And.intro (fun _ => ?_) tf; conv => whnf)
          | (refine And.intro ft (fun _ => ?_); conv => whnf)
          | (refine And.intro (by kernel_rfl) ?_; conv => whnf)
          | (refine And.intro (by decide) ?_; conv => whnf)
          | (refine And.intro (fun _ => ?_) (fun h => absurd h (by decide)); conv => whnf)
          | (refine And.intro (fun h => absurd h (by decide)) (fun _ => ?_); conv => whnf)
          | (refine And.intro (fun _ => ?_) (fun _ => ?_) <;> conv => whnf)
          | (refine ⟨_, _, frz_a su rfl rfl, ?_⟩; conv => whnf)
          | (refine ⟨_, _, neF [1] (by kernel_rfl) rfl, ?_⟩; conv => whnf)))
        all_goals try (exfalso; simp only [decide_eq_true_eq, decide_eq_false_iff_not, Bool.not_eq_true', Bool.not_eq_false', Bool.not_eq_true, Bool.not_eq_false, beq_iff_eq, bne_iff_ne, beq_eq_false_iff_ne, bne_eq_false_iff_eq, ne_eq, Decidable.not_not] at *; first | omega | contradiction | (simp_all; done) | (simp_all; omega))
        · rename_i hne
          have h9 : ¬ sumAt ls k ≤ 9223372036854775807 := fun h => by rw [toldZ_in ⟨by omega, h⟩] at hne; simp at hne
          obtain ⟨e1, e2⟩ := merge_over hok hk6 (by omega)
          have et : toldZ (sumAt ls k) = (0, 12) := by unfold toldZ; rw [if_neg (by omega)]
          repeat (any_goals (first
            | exact True.intro
            | (refine And.intro (whole_len s68 z65_len) ?_; conv => whnf)
            | (refine ⟨hR z65, by kernel_rfl, ?_⟩; conv => whnf)
            | (refine And.intro (sets_fit z65_len z65_len) ?_; conv => whnf)
            | (refine ⟨_, rows_whole z65_len z65_len, ?_⟩; conv => whnf)
            | (refine Or.inl ?_; conv => whnf)
            | (refine And.intro (fun _ => ?_) tf; conv => whnf)
            | (refine And.intro ft (fun _ => ?_); conv => whnf)
            | (refine And.intro (by kernel_rfl) ?_; conv => whnf)
            | (refine And.intro (by decide) ?_; conv => whnf)
            | (refine And.intro (fun _ => ?_) (fun h => absurd h (by decide)); conv => whnf)
            | (refine And.intro (fun h => absurd h (by decide)) (fun _ => ?_); conv => whnf)
            | (refine And.intro (fun _ => ?_) (fun _ => ?_) <;> conv => whnf)))
          rw [e1, e2]
          all_goals refine ⟨[], ?_⟩
          repeat (any_goals (first | exact True.intro | exact rfl | with_reducible_and_instances rfl | exact (by kernel_rfl) | refine And.intro ?_ ?_))
          all_goals conv => whnf
          rw [et]; rfl
        · rename_i hne
          have h9 : sumAt ls k ≤ 9223372036854775807 := by
            refine Classical.byContradiction fun h => ?_
            unfold toldZ at hne
            rw [if_neg (by omega)] at hne
            exact absurd hne (by decide)
          have et := toldZ_in (z := sumAt ls k) ⟨by omega, h9⟩
          have hst : 0 + k * 1 + 1 ≤ (hR p).length := by rw [hR_len]; omega
          have hse := sets_row (l := p) (k := k) (toldZ (sumAt ls k)).1 (by omega)
          rw [show p.set k (toldZ (sumAt ls k)).1 = partL ls (k + 1) by rw [et, hp]; exact partL_set ls hk6] at hse
          repeat (any_goals (first
            | exact True.intro
            | (refine ⟨k, rfl, hk6, ?_⟩; conv => whnf)
            | (refine And.intro hst ?_; conv => whnf)
            | (refine ⟨_, hse, ?_⟩; conv => whnf)
            | (refine Or.inl ?_; conv => whnf)
            | (refine And.intro (fun _ => ?_) tf; conv => whnf)
            | (refine And.intro ft (fun _ => ?_); conv => whnf)
            | (refine And.intro (by kernel_rfl) ?_; conv => whnf)
            | (refine And.intro (by decide) ?_; conv => whnf)
            | (refine And.intro (fun _ => ?_) (fun h => absurd h (by decide)); conv => whnf)
            | (refine And.intro (fun h => absurd h (by decide)) (fun _ => ?_); conv => whnf)
            | (refine And.intro (fun _ => ?_) (fun _ => ?_) <;> conv => whnf)))
          all_goals try (exfalso; simp only [decide_eq_true_eq, decide_eq_false_iff_not, Bool.not_eq_true', Bool.not_eq_false', Bool.not_eq_true, Bool.not_eq_false, beq_iff_eq, bne_iff_ne, beq_eq_false_iff_ne, bne_eq_false_iff_eq, ne_eq, Decidable.not_not] at *; first | omega | contradiction | (simp_all; done) | (simp_all; omega))
          refine ⟨(k + 1, partL ls (k + 1)), ⟨⟨hk6, fun j (hj : j < k + 1) => ?_⟩, rfl⟩, show 65 - (k + 1) < 65 - k by omega, ?_⟩
          · rcases Nat.lt_or_ge j k with q | q
            · exact hsm j q
            · rw [show j = k by omega]; exact h9
          all_goals refine ⟨[], ?_⟩
          repeat (any_goals (first | exact True.intro | exact rfl | with_reducible_and_instances rfl | exact (by kernel_rfl) | refine And.intro ?_ ?_))
          all_goals conv => whnf
          exact wk1 (by omega)
    · have hke : k = 65 := by omega
      obtain ⟨e1, e2⟩ := merge_fine hok (fun j hj => hsm j (by omega))
      rw [← partL_all, ← hke, ← hp] at e2
      rw [e1, e2]
      repeat (any_goals (first
        | exact True.intro
        | (refine And.intro (fun h => absurd h (by simpa using hk6)) (fun _ => ?_); conv => whnf)
        | (refine And.intro (whole_len s68 p65) ?_; conv => whnf)
        | (refine ⟨_, whole_row s68 p65, whole_len s68 p65, ?_⟩; conv => whnf)
        | (refine And.intro (sets_fit z65_len p65) ?_; conv => whnf)
        | (refine ⟨_, rows_whole z65_len p65, ?_⟩; conv => whnf)
        | (refine ⟨_, rfl, ?_⟩; conv => whnf)
        | (refine Or.inl ?_; conv => whnf)
        | (refine And.intro (fun _ => ?_) tf; conv => whnf)
        | (refine And.intro ft (fun _ => ?_); conv => whnf)
        | (refine And.intro (by kernel_rfl) ?_; conv => whnf)
        | (refine And.intro (by decide) ?_; conv => whnf)
        | (refine And.intro (fun _ => ?_) (fun h => absurd h (by decide)); conv => whnf)
        | (refine And.intro (fun h => absurd h (by decide)) (fun _ => ?_); conv => whnf)
        | (refine And.intro (fun _ => ?_) (fun _ => ?_) <;> conv => whnf)))
      all_goals try (exfalso; simp only [decide_eq_true_eq, decide_eq_false_iff_not, Bool.not_eq_true', Bool.not_eq_false', Bool.not_eq_true, Bool.not_eq_false, beq_iff_eq, bne_iff_ne, beq_eq_false_iff_ne, bne_eq_false_iff_eq, ne_eq, Decidable.not_not] at *; first | omega | contradiction | (simp_all; done) | (simp_all; omega))
      all_goals refine ⟨[], ?_⟩
      repeat (any_goals (first | exact True.intro | exact rfl | with_reducible_and_instances rfl | exact (by kernel_rfl) | refine And.intro ?_ ?_))
      all_goals conv => whnf
end Go.Proofs.Ytbjmdnemeidpjaa
/- Full: the maker of the iterator, and the iterator's contract. -/
namespace Go.Proofs.Ytbjmdnemeidpjaa
open Go.RowKit
set_option linter.unusedVariables false
set_option linter.unusedSimpArgs false
set_option maxRecDepth 100000 in
theorem full_any (l : List Int) (w : World) :
    Calls Try.prog 35 #[.agg (hc l)] w fun e w' => e = .returned (.func (.func 80) #[] #[.pointer (some ⟨w.heap.size, 0, none⟩)]) ∧ w' = w.alloc (.cells (hc l) 27) := by
  have hmf : ∀ (fn : Fn) (first cap : Array Value) (w : World), (Instr.makeFunc fn first cap).run Try.prog w = .ok (.func fn first cap) w := fun _ _ _ _ => by kernel_rfl
  go_enter Try.func35, Try.ntmps35
  go_wp2
  go_ret
  exact ⟨rfl, rfl⟩
/-- The buckets that are not empty, below k. -/
def fullTo (l : List Int) (k : Nat) : List (Nat × Int) := (List.range k).filterMap fun b => if l[b]?.getD 0 = 0 then none else some (b, l[b]?.getD 0)
theorem fullTo_none {l : List Int} {k : Nat} (h : l[k]? = some 0) : fullTo l (k + 1) = fullTo l k := by
  unfold fullTo
  rw [List.range_succ, List.filterMap_append]
  simp [h]
theorem fullTo_some {l : List Int} {k : Nat} {x : Int} (h : l[k]? = some x) (hx : x ≠ 0) : fullTo l (k + 1) = fullTo l k ++ [(k, x)] := by
  unfold fullTo
  rw [List.range_succ, List.filterMap_append]
  simp [h, hx]
theorem fullTo_len (l : List Int) (k : Nat) : (fullTo l k).length ≤ k := by
  unfold fullTo
  exact Nat.le_trans (List.length_filterMap_le _ _) (by simp)
theorem fullTo_pre (l : List Int) : ∀ (j k : Nat), fullTo l k <+: fullTo l (k + j)
  | 0, k => List.prefix_refl _
  | j + 1, k => by
    refine List.IsPrefix.trans (fullTo_pre l j k) ?_
    unfold fullTo
    rw [← Nat.add_assoc, List.range_succ, List.filterMap_append]
    exact List.prefix_append _ _
def encP (x : Nat × Int) : Array Value := #[.int .i64 (x.1 : Int), .int .i64 x.2]
theorem wpListIn_load_blk {P : Program} {F : Fence} {n : Nat} {w : World} {ops : Array Oper} {rest : List Oper} {op : Oper} {a : Act} {Q : Exit → Act → World → Prop} (hgd : op.guard = none) (t : TypeId) (x : Operand) (ho : op.op = .load t x)
    (b : Nat) (hx : a.eval x = .pointer (some ⟨b, 0, none⟩)) (cs : Array Value) (d : TypeDesc) (hB : Blk w b t cs)
    (hu : P.underlying t = some d) (hd : d.isRow = true) (hi : (P.info? t).map (·.size) = some cs.size)
    (h : wpListIn F n P ops Q rest (a.put op.dst (.agg cs)) w) : wpListIn F n P ops Q (op :: rest) a w :=
  wpListIn_plain hgd fun _ hK => by
    refine ⟨fun f hf => by simp [Oper.about, ho] at hf, ?_⟩
    rw [Oper.semAt_eq _ _ _ (fun c h => by rw [ho] at h; cases h)]
    unfold execOp
    simp only [ho, hx, Instr.loadAt, Instr.sureAddr, Sem.run_bind, Sem.run_pure, Result.andThen_ok, run_load_blk hB hu hd hi]
    exact hK _ _ h
attribute [local go_sem] Oper.semAt_some
set_option maxHeartbeats 1000000 in
set_option maxRecDepth 100000 in
theorem fullIt (F : Fence) (n : Nat) (hF : F.fn 80) (hro : F.round = none) (hn : 1 ≤ n) (g : Nat) (l : List Int) (w : World) (hl : l.length = 65) (hB : Blk w g 27 (hc l)) :
    SeqStopsA F n Try.prog 80 #[.pointer (some ⟨g, 0, none⟩)] encP (fun xs => xs = fullTo l 65) (fun pre => pre <+: fullTo l 65) 65 w := fun lp J Jx W hW _ _ hY h0 => by
  have H9 := hide hl
  have HBW := hide (hB.next hW)
  refine callsIn_of_wp Try.func80 rfl hF ?_ hro
  simp only [Try.ntmps80, List.size_toArray, List.length_cons, List.length_nil, Nat.reduceAdd, Nat.reduceSub, Array.replicate_succ, Array.replicate_zero, List.push_toArray, List.append_toArray, List.nil_append, List.cons_append]
  gi_wp2_with (refine wpListIn_load_blk rfl 27 (.tmp 1) rfl g rfl (hc l) _ HBW.out Try.underlying27 rfl (info69l H9.out) ?_)
  gi_loopw [3, 4, 6] (fun _ _ i wr => ∃ (k : Nat), k ≤ 65 ∧ i = .int .i64 k ∧ J (fullTo l k) wr) (fun _ _ i _ => 65 - (intOf i).toNat)
  case atStart => exact ⟨0, by omega, rfl, h0⟩
  case round =>
    obtain ⟨k, hk, rfl, hJ⟩ := hrel
    by_cases hk1 : k < 65
    · obtain ⟨x, hx⟩ : ∃ x, l[k]? = some x := ⟨l[k]'(by omega), List.getElem?_eq_getElem _⟩
      have hix := fun w => index_h l k x w hk1 hx
      by_cases h0 : x = 0
      · subst h0
        have HJ2 := hide (show J (fullTo l (k + 1)) _ by rw [fullTo_none hx]; exact hJ)
        clear hx hJ
        gi_wp2
        refine ⟨fun _ h => (by cases h), ?_⟩
        gi_wp2
        go_roundw
        case rel => exact ⟨k + 1, by omega, by go_num, HJ2.out⟩
        case measure => simp [intOf]; omega
      · have hne : (x != 0) = true := by simpa using h0
        obtain ⟨fn, tmps, assign, body, hy, hR⟩ := hY (fullTo l k) (k, x) _ hJ (by have := fullTo_len l k; omega)
        dsimp only [encP] at hy
        have HX := hide hx
        clear hx hJ h0
        gi_wp2
        have hx0 : x ≠ 0 := by intro h; subst h; simp at hne
        refine hR.mono ?_
        rintro e W3 (⟨rfl, hJ3, _⟩ | ⟨rfl, hJx3⟩)
        · rw [← fullTo_some HX.out hx0] at hJ3
          gi_wp2
          go_roundw
          case rel => exact ⟨k + 1, by omega, by go_num, hJ3⟩
          case measure => simp [intOf]; omega
        · rw [← fullTo_some HX.out hx0] at hJx3
          gi_wp2
          refine bodyPost_ret (results_none rfl _ _ _) rfl ?_
          refine ⟨⟨_, rfl⟩, .inr ⟨_, ?_, hJx3⟩⟩
          have := fullTo_pre l (65 - (k + 1)) (k + 1)
          rw [show k + 1 + (65 - (k + 1)) = 65 by omega] at this
          exact this
    · obtain rfl : k = 65 := by omega
      gi_wp2
      go_end0
      exact ⟨⟨_, rfl⟩, .inl ⟨_, rfl, hJ⟩⟩
end Go.Proofs.Ytbjmdnemeidpjaa
/- Gaps: Right, Has. -/
namespace Go.Proofs.Ytbjmdnemeidpjaa
open Go.RowKit
set_option linter.unusedVariables false
set_option linter.unusedSimpArgs false
def gv (lo hi : Int) : Array Value := #[.int .i64 lo, .int .i64 hi]
theorem gv_one (lo hi : Int) : (gv lo hi).all (·.oneCell') = true := by
  rw [Array.all_eq_true_iff_forall_mem]
  intro v hv
  simp only [gv, List.mem_toArray, List.mem_cons, List.not_mem_nil, or_false] at hv
  rcases hv with rfl | rfl <;> rfl
end Go.Proofs.Ytbjmdnemeidpjaa
/- gap.New, Bounds. -/
namespace Go.Proofs.Ytbjmdnemeidpjaa
open Go.RowKit
set_option linter.unusedVariables false
set_option linter.unusedSimpArgs false
def bLo (b : Int) : Int := if b = 0 then -9223372036854775808 else if b = 1 then 0 else 2 ^ (b - 2).toNat
def bHi (b : Int) : Int := if b = 0 then -1 else if b = 1 then 0 else 2 * 2 ^ (b - 2).toNat - 1
def bIn (b : Int) : Bool := decide (0 ≤ b ∧ b < 65)
theorem bLo_in {b : Int} (h1 : 2 ≤ b) (h2 : b < 65) : 1 ≤ bLo b ∧ bLo b ≤ 4611686018427387904 ∧ bHi b = 2 * bLo b - 1 := by
  have h3 : bLo b = 2 ^ (b - 2).toNat := by unfold bLo; rw [if_neg (by omega), if_neg (by omega)]
  have h4 : bHi b = 2 * 2 ^ (b - 2).toNat - 1 := by unfold bHi; rw [if_neg (by omega), if_neg (by omega)]
  have h5 : (2 : Nat) ^ (b - 2).toNat ≤ 2 ^ 62 := Nat.pow_le_pow_right (by omega) (by omega)
  have h6 : 1 ≤ (2 : Nat) ^ (b - 2).toNat := Nat.one_le_two_pow
  have h7 : ((2 : Int) ^ (b - 2).toNat) = ((2 ^ (b - 2).toNat : Nat) : Int) := by simp
  rw [h3, h4, h7]
  omega
end Go.Proofs.Ytbjmdnemeidpjaa
/- alive of layer 5. -/
namespace Go.Proofs.Ytbjmdnemeidpjaa
open Go.RowKit
attribute [local go_sem] Oper.semAt_some
set_option linter.unusedVariables false
set_option linter.unusedSimpArgs false
def hA : List Int := histL [0, 1, 1, 5]
theorem hA_eq : histL [0, 1, 1, 5] = hA := by rw [hA]
theorem gap4 : (if bIn 4 = true then gv (bLo 4) (bHi 4) else gv 0 0) = gv 4 7 := by kernel_rfl
theorem in4 : bIn 4 = true := by kernel_rfl
theorem gap65 : (if bIn 65 = true then gv (bLo 65) (bHi 65) else gv 0 0) = gv 0 0 := by kernel_rfl
theorem in65 : bIn 65 = false := by kernel_rfl
theorem hA_len : hA.length = 65 := by decide +kernel
theorem hA_at : hA[0]? = some 0 ∧ hA[1]? = some 1 ∧ hA[2]? = some 2 ∧ hA[4]? = some 1 := by decide +kernel
theorem hA_ok : ∀ x ∈ hA, -9223372036854775808 ≤ x ∧ x ≤ 9223372036854775807 := by decide +kernel
theorem hA_full : fullTo hA 65 = [(1, 1), (2, 2), (4, 1)] := by decide +kernel
theorem hA_sum : hA.sum = 4 := by decide +kernel
theorem hA_merge : mergeE [hA, hA] = 0 ∧ (mergeR [hA, hA])[2]? = some 4 ∧ (mergeR [hA, hA]).length = 65 := by decide +kernel
theorem hA_add : addE hA (-9) = 0 ∧ (addL hA (-9))[0]? = some 1 ∧ (addL hA (-9)).length = 65 := by decide +kernel
def hM : List Int := mergeR [hA, hA]
def hN : List Int := addL hA (-9)
theorem hN_len : hN.length = 65 := by decide +kernel
theorem hM_len : hM.length = 65 := by decide +kernel
theorem hA_flat : (flat [hA, hA]).toArray.size = 2 * 65 := by decide +kernel
def wsum (l : List (Nat × Int)) : Int := l.foldl (fun s x => wrap64 (s + wrap64 ((x.1 : Int) * x.2))) 0
theorem wsum_snoc (l : List (Nat × Int)) (x : Nat × Int) : wsum (l ++ [x]) = wrap64 (wsum l + wrap64 ((x.1 : Int) * x.2)) := by unfold wsum; rw [List.foldl_append]; rfl
theorem hA_rank : rankF hA 2 = some 2 := by decide +kernel
theorem b_62 : bkt 4611686018427387904 = 64 := by decide +kernel
theorem wpList_run_value {P : Program} {w w' : World} {ops : Array Oper} {rest : List Oper} {op : Oper} {a : Act} {Q : Exit → Act → World → Prop} (hgd : op.guard = none) (v : Value)
    (hrun : (execOp a.eval op).run P w = .ok (.value v) w') (h : wpList P ops Q rest (a.put op.dst v) w') : wpList P ops Q (op :: rest) a w :=
  wpList_plain hgd fun _ hK => by
    unfold Oper.wp
    rw [hrun]
    exact hK _ _ h
set_option maxRecDepth 100000 in
theorem build_hA (w : World) : (Instr.buildSlice 103 2 #[(0, .agg (hc hA)), (1, .agg (hc hA))]).run Try.prog w = .ok (.slice (some ⟨w.heap.size, 0, none⟩) 2 2) (w.alloc (.cells (flat [hA, hA]).toArray 27)) := by kernel_rfl
theorem execBuild (ρ : Operand → Value) (op : Oper) (t : TypeId) (n : Nat) (x y : Operand) (ho : op.op = .buildSlice t n #[(0, x), (1, y)]) (w w' : World) (v : Value)
    (h : (Instr.buildSlice t n #[(0, ρ x), (1, ρ y)]).run Try.prog w = .ok v w') : (execOp ρ op).run Try.prog w = .ok (.value v) w' := by
  unfold execOp
  simp only [ho]
  simp [Sem.run_bind, h, Result.andThen]
end Go.Proofs.Ytbjmdnemeidpjaa
/- The document's Rank, and Total, Rank and Full of the program. -/
namespace Go.Proofs.Ytbjmdnemeidpjaa
set_option linter.unusedSimpArgs false
set_option linter.unusedVariables false
open Go.RowKit
set_option maxRecDepth 100000
theorem wideZ_hi {hi lo : Int} (h0 : 0 ≤ lo) (h1 : lo < word) : hiZ (wideZ hi lo) = hi ∧ loZ (wideZ hi lo) = lo := by
  unfold hiZ loZ wideZ word at *
  omega
/-- What is left of K behind the first b counts. -/
theorem rank_none {l : List Int} {K : Int} (hok : okH l = true) (hK : 0 ≤ K) (hl : l.length = 65) (h : ∀ b, b < 65 → (l.take (b + 1)).sum ≤ K) : rankF l K = none := by
  unfold rankF
  rw [if_neg (by simp [hok]; omega)]
  rw [List.find?_eq_none]
  intro b hb
  have := h b (List.mem_range.1 hb)
  simp; omega
theorem rank_some {l : List Int} {K : Int} {b : Nat} (hok : okH l = true) (hK : 0 ≤ K) (hb : b < 65) (h1 : ∀ j, j < b → (l.take (j + 1)).sum ≤ K) (h2 : K < (l.take (b + 1)).sum) : rankF l K = some b := by
  unfold rankF
  rw [if_neg (by simp [hok]; omega)]
  rw [List.find?_eq_some_iff_getElem]
  refine ⟨decide_eq_true h2, b, by simpa using hb, by simp, fun j hj => ?_⟩
  have := h1 j hj
  simp; omega
end Go.Proofs.Ytbjmdnemeidpjaa
/- Full: the buckets that are not empty, in order. -/
namespace Go.Proofs.Ytbjmdnemeidpjaa
set_option linter.unusedSimpArgs false
set_option linter.unusedVariables false
open Go.RowKit
set_option maxRecDepth 100000
/-- From the bucket y on the next one that is not empty is b. -/
def NxF (l : List Int) (y b : Nat) (v : Int) (y' : Nat) : Prop := y ≤ b ∧ b < 65 ∧ l[b]? = some v ∧ v ≠ 0 ∧ (∀ j, y ≤ j → j < b → l[j]? = some 0) ∧ y' = b + 1
def FinF (l : List Int) (y : Nat) : Prop := y ≤ 65 ∧ ∀ j, y ≤ j → j < 65 → l[j]? = some 0
theorem sees_row {l : List Int} {Lc : List AObj} {i : Nat} (hi : Lc[i]? = some (.row (hR l))) {us vs : List Value} {ρ0 : Nat → Option Value} {w : World}
    (h : ∃ F ρ H, Env F ρ H w ∧ (∀ (i : Nat) o, Lc[i]? = some o → o.live = true → H i = some o ∧ ∃ h, ρ0 i = some h ∧ ρ i = some h) ∧ RAs w F ρ [] us ∧ RAs w F ρ [.ptr i 0] vs) :
    us = [] ∧ ∃ b t, vs = [.pointer (some ⟨b, 0, none⟩)] ∧ Blk w b t (hc l) := by
  obtain ⟨F, ρ, H, E, ho, h1, h2⟩ := h
  cases h1
  refine ⟨rfl, ?_⟩
  obtain ⟨v, rfl, hv⟩ := h2.one_out
  cases hv with | @ptr _ _ b hρ =>
  obtain ⟨hHi, hh, e1, e2⟩ := ho i _ hi rfl
  obtain ⟨h', e3, ⟨b', t, vs, rfl, hB, hR'⟩, _⟩ := E.rep i _ hHi rfl
  rw [hρ] at e3; injection e3 with e3; injection e3 with e3; injection e3 with e3; injection e3 with e3
  subst e3
  have := (hR_flat l).eq hR'
  have hv : vs = hc l := by
    apply Array.ext'
    rw [this]; rfl
  subst hv
  exact ⟨b, t, rfl, hB⟩
theorem wpListIn_load_blk2 {P : Program} {F : Fence} {n : Nat} {w : World} {ops : Array Oper} {rest : List Oper} {op : Oper} {a : Act} {Q : Exit → Act → World → Prop} (hgd : op.guard = none) (t t' : TypeId) (x : Operand) (ho : op.op = .load t x)
    (b : Nat) (hx : a.eval x = .pointer (some ⟨b, 0, none⟩)) (cs : Array Value) (d : TypeDesc) (hB : Blk w b t' cs)
    (hu : P.underlying t = some d) (hd : d.isRow = true) (hi : (P.info? t).map (·.size) = some cs.size)
    (h : wpListIn F n P ops Q rest (a.put op.dst (.agg cs)) w) : wpListIn F n P ops Q (op :: rest) a w :=
  wpListIn_plain hgd fun _ hK => by
    refine ⟨fun f hf => by simp [Oper.about, ho] at hf, ?_⟩
    rw [Oper.semAt_eq _ _ _ (fun c h => by rw [ho] at h; cases h)]
    unfold execOp
    have hr : (loadVar t ⟨b, 0, none⟩).run P w = .ok (.agg cs) w := run_loadVar_row w b t' t cs (0, 0) d hB hu (by cases d <;> simp_all) hi
    simp only [ho, hx, Instr.loadAt, Instr.sureAddr, Sem.run_bind, Sem.run_pure, Result.andThen_ok, hr]
    exact hK _ _ h
attribute [local go_sem] Oper.semAt_some
set_option maxHeartbeats 1000000 in
theorem fullN {l : List Int} (hl : l.length = 65) {Lc : List AObj} {i : Nat} (hi : Lc[i]? = some (.row (hR l))) :
    IterN Try.prog 80 [] [.ptr i 0] Lc 0 (fun y x y' => ∃ b v, NxF l y b v y' ∧ x = [iA (b : Nat), iA v]) (FinF l) := by
  intro us vs lp ρ0
  refine ⟨fun y vals y' => ∃ b v, NxF l y b v y' ∧ vals = [.int .i64 (b : Nat), .int .i64 v], fun y vals y' h => ?_, ?_⟩
  · obtain ⟨b, v, h, rfl⟩ := h
    exact ⟨_, ⟨b, v, h, rfl⟩, fun w F ρ => .cons (.d (.v _)) (.cons (.d (.v _)) .nil)⟩
  intro J Jx hJ hN hNx hY O w h0
  obtain ⟨rfl, g, t, rfl, hB⟩ := sees_row hi (hJ 0 O w h0).1
  have H9 := hide hl
  have HB := hide hB
  clear hJ hN hNx hB hi
  refine (callsIn_wide (n := 1)).1 (callsIn_of_wp Try.func80 rfl trivial ?_ rfl)
  simp only [Try.ntmps80, List.size_toArray, List.length_cons, List.length_nil, Nat.reduceAdd, Nat.reduceSub, Array.replicate_succ, Array.replicate_zero, List.push_toArray, List.append_toArray, List.nil_append, List.cons_append]
  gi_wp2_with (refine wpListIn_load_blk2 rfl 27 t (.tmp 1) rfl g rfl (hc l) _ HB.out Try.underlying27 rfl (info69l H9.out) ?_)
  gi_loopw [3, 4, 6] (fun _ _ i wr => ∃ (k y : Nat) (O : Nat → Prop), k ≤ 65 ∧ y ≤ k ∧ (∀ j, y ≤ j → j < k → l[j]? = some 0) ∧ i = .int .i64 k ∧ J y O wr) (fun _ _ i _ => 65 - (intOf i).toNat)
  case atStart => exact ⟨0, 0, O, by omega, by omega, fun j h1 h2 => by omega, rfl, h0⟩
  case round =>
    obtain ⟨k, y, O1, hk, hyk, hz, rfl, hJ⟩ := hrel
    have HZ := hide hz
    clear hz
    by_cases hk1 : k < 65
    · obtain ⟨x, hx⟩ : ∃ x, l[k]? = some x := ⟨l[k]'(by have := H9.out; omega), List.getElem?_eq_getElem _⟩
      have hix := fun w => index_h l k x w hk1 hx
      by_cases h0 : x = 0
      · subst h0
        have HX := hide hx
        clear hx
        gi_wp2
        refine ⟨fun _ h => (by cases h), ?_⟩
        gi_wp2
        go_roundw
        case rel => exact ⟨k + 1, y, O1, by omega, by omega, fun j h1 h2 => by
                      rcases Nat.lt_or_ge j k with q | q
                      · exact HZ.out j h1 q
                      · rw [show j = k by omega]; exact HX.out, by go_num, hJ⟩
        case measure => simp [intOf]; omega
      · have hne : (x != 0) = true := by simpa using h0
        have HNx := hide (show NxF l y k x (k + 1) from ⟨hyk, hk1, hx, h0, HZ.out, rfl⟩)
        obtain ⟨fn, tmps, assign, body, hy, hR⟩ := hY y O1 _ _ (k + 1) ⟨k, x, HNx.out, rfl⟩ hJ
        clear hx hJ h0
        gi_wp2
        refine hR.mono ?_
        rintro e W3 ⟨O', hfar, hO', ⟨rfl, hJ3⟩ | ⟨rfl, hJx3⟩⟩
        · clear hR hy hfar
          gi_wp2
          go_roundw
          case rel => exact ⟨k + 1, k + 1, O', by omega, by omega, fun j h1 h2 => by omega, by go_num, hJ3⟩
          case measure => simp [intOf]; omega
        · clear hR hy hfar
          gi_wp2
          refine bodyPost_ret (results_none rfl _ _ _) rfl ?_
          exact ⟨⟨_, rfl⟩, _, .inr hJx3⟩
    · obtain rfl : k = 65 := by omega
      gi_wp2
      go_end0
      exact ⟨⟨_, rfl⟩, O1, .inl ⟨y, ⟨hyk, HZ.out⟩, hJ⟩⟩
end Go.Proofs.Ytbjmdnemeidpjaa
/- HistCounts, its law: every Of, Add and Merge is answered as the document says. -/
namespace Go.Proofs.Ytbjmdnemeidpjaa
set_option linter.unusedSimpArgs false
set_option linter.unusedVariables false
open Go.RowKit
set_option maxRecDepth 100000
theorem eqIn_h (l l' : List Int) (hl : l.length = 65) (hl' : l'.length = 65) (w : World) : (Op.equalIn 10000 27 (.agg (hc l)) (.agg (hc l'))).run Try.prog w = .ok (decide (l = l')) w := by
  obtain ⟨i, hi, _⟩ : ∃ i, Try.prog.info? 2 = some i ∧ True := by
    have : (Try.prog.info? 2).isSome = true := by kernel_rfl
    obtain ⟨i, hi⟩ := Option.isSome_iff_exists.1 this
    exact ⟨i, hi, trivial⟩
  have hc1 : Try.prog.cellsOf 2 = 1 := by kernel_rfl
  rw [run_equalIn_array w 9999 (hc l) (hc l') Try.underlying27 hi, hc1, eqItems_h l l' hl hl' w _ (fun i hi => List.mem_range.1 hi)]
  have : ((List.range 65).all fun i => decide (l[i]? = l'[i]?)) = decide (l = l') := by
    rw [Bool.eq_iff_iff, List.all_eq_true, decide_eq_true_eq]
    refine ⟨fun h => ext65 hl hl' fun b hb => ?_, fun h => by subst h; simp⟩
    have := h b (List.mem_range.2 hb)
    rw [of_decide_eq_true this]
  rw [this]
section
variable {L : List AObj} {ty n : Nat} {x y : Operand} {t' : TypeId}
theorem guardT : Try.prog.eqGuardType Try.prog.depth 27 = false := by kernel_rfl
theorem eqH {l l' : List Int} (hl : l.length = 65) (hl' : l'.length = 65) : Does Try.prog (.binOp .eql 27 x y t') ty L n [.d (hD l), .d (hD l')] e0 (.d (.v (.bool (decide (l = l'))))) :=
  does_ra2 rfl fun o w F ρ ev u v ho h1 h2 hu hv => by
    have := FlatW.eq (.d (hD_flat l)) hu
    subst this
    have := FlatW.eq (.d (hD_flat l')) hv
    subst this
    exact exec_eq ho h1 h2 (run_eqGuard_agg w .eql _ _ _ _ _ guardT) (by rw [run_eql_struct, eqIn_h l l' hl hl']; rfl)
theorem neH {l l' : List Int} (hl : l.length = 65) (hl' : l'.length = 65) : Does Try.prog (.binOp .neq 27 x y t') ty L n [.d (hD l), .d (hD l')] e0 (.d (.v (.bool (!decide (l = l'))))) :=
  does_ra2 rfl fun o w F ρ ev u v ho h1 h2 hu hv => by
    have := FlatW.eq (.d (hD_flat l)) hu
    subst this
    have := FlatW.eq (.d (hD_flat l')) hv
    subst this
    exact exec_eq ho h1 h2 (run_eqGuard_agg w .neq _ _ _ _ _ guardT) (by rw [run_neq_struct, eqIn_h l l' hl hl']; rfl)
end
theorem neHH {L : List AObj} {ty n : Nat} {x y : Operand} {t' : TypeId} {l : List Int} (hl : l.length = 65) : Does Try.prog (.binOp .neq 27 x y t') ty L n [.d (hD l), .d (hD l)] e0 (.d (.v (.bool false))) := by
  have h := neH (L := L) (ty := ty) (n := n) (x := x) (y := y) (t' := t') hl hl
  rw [show (!decide (l = l)) = false by simp] at h
  exact h
theorem eqHH {L : List AObj} {ty n : Nat} {x y : Operand} {t' : TypeId} {l : List Int} (hl : l.length = 65) : Does Try.prog (.binOp .eql 27 x y t') ty L n [.d (hD l), .d (hD l)] e0 (.d (.v (.bool true))) := by
  have h := eqH (L := L) (ty := ty) (n := n) (x := x) (y := y) (t' := t') hl hl
  rw [show decide (l = l) = true by simp] at h
  exact h
theorem copyL_sat (l : List Int) (hn : l.length ≤ 1000000) : Sat Try.prog 11 [.d (lD l)] [] (.own 0) [.sl 1 (l.map lR)] := by
  have hm : (l.map lR).length = l.length := List.length_map _
  refine sat_of_vc (T := tiOf Try.prog) (E := E0) Try.func11 rfl rfl hE0 hm0 rfl ?_
  conv => whnf
  repeat (any_goals (first
    | exact True.intro
    | (refine Or.inl ?_; conv => whnf)
    | (refine And.intro (fun _ => ?_) tf; conv => whnf)
    | (refine And.intro ft (fun _ => ?_); conv => whnf)
    | (refine And.intro (by kernel_rfl) ?_; conv => whnf)
    | (refine And.intro (by decide) ?_; conv => whnf)
    | (refine And.intro (fun _ => ?_) (fun h => absurd h (by decide)); conv => whnf)
    | (refine And.intro (fun h => absurd h (by decide)) (fun _ => ?_); conv => whnf)
    | (refine And.intro (fun _ => ?_) (fun _ => ?_) <;> conv => whnf)
    | (refine ⟨_, _, apd 1 8 (by kernel_rfl) rfl (by simp; omega), ?_⟩; conv => whnf)))
  all_goals refine ⟨[(0, 1)], ?_⟩
  repeat (any_goals (first | exact True.intro | exact rfl | with_reducible_and_instances rfl | exact (by kernel_rfl) | refine And.intro ?_ ?_))
  all_goals conv => whnf
theorem s69 : (tiOf Try.prog 27).size = 65 := by kernel_rfl
theorem mergeR_len (ls : List (List Int)) : (mergeR ls).length = 65 := by
  unfold mergeR
  split
  · simp [mergeL]
  · rfl
theorem flat_hR : ∀ (l : List Int), flatDs (hR l) = true
  | [] => by simp [flatDs]
  | z :: l => by
    show flatDs (iD z :: hR l) = true
    rw [flatDs, flat_hR l]; rfl
theorem flat_hD (l : List Int) : flatD (hD l) = true := by
  show flatD (.agg (hR l)) = true
  rw [flatD]; exact flat_hR l
theorem flat_hA (l : List Int) : flatA (.d (hD l)) = true := by rw [flatA]; exact flat_hD l
theorem flat_hE (l : List Int) (e : Int) : flatA (.tup [.d (hD l), iA e]) = true := by
  rw [flatA, flatAs, flatAs, flatAs, flat_hA]; rfl
theorem lt_hA (l : List Int) : AV.lt 0 (.d (hD l)) = true := by rw [AV.lt]
theorem z69 : List.map D.v (tiOf Try.prog 27).zero = hR z65 := by kernel_rfl
theorem z68 : List.map D.v (tiOf Try.prog 26).zero = hR z65 := by kernel_rfl
theorem fit69 {l : List Int} (h : l.length = 65) : 0 + (hR l).length ≤ (List.map D.v (tiOf Try.prog 27).zero).length := by rw [z69]; exact sets_fit z65_len h
theorem fit68 {l : List Int} (h : l.length = 65) : 0 + (hR l).length ≤ (List.map D.v (tiOf Try.prog 26).zero).length := by rw [z68]; exact sets_fit z65_len h
theorem set69 {l : List Int} (h : l.length = 65) : sets (List.map D.v (tiOf Try.prog 27).zero) 0 (hR l) = hR l := by rw [z69]; exact rows_whole z65_len h
theorem set68 {l : List Int} (h : l.length = 65) : sets (List.map D.v (tiOf Try.prog 26).zero) 0 (hR l) = hR l := by rw [z68]; exact rows_whole z65_len h
theorem add_merge (q : List Int) (v : Int) (hq : q.length = 65) (hv : in64 v) (hx : ∀ z ∈ q, in64 z) : addL q v = mergeR [q, histL [v]] ∧ addE q v = mergeE [q, histL [v]] := by
  have hb := bkt_lt v hv.2
  have hok := histL_ok [v]
  have hs : ∀ j, sumAt [q, histL [v]] j = q[j]?.getD 0 + (histL [v])[j]?.getD 0 := fun j => by simp [sumAt]
  have hw : ∀ j, j < 65 → (histL [v])[j]?.getD 0 = if bkt v = j then 1 else 0 := fun j hj => by
    rw [histL_get [v] j hj]
    simp [List.countP_cons]
    split <;> rfl
  have hqj : ∀ j, j < 65 → q[j]?.getD 0 ≤ 9223372036854775807 := fun j hj => by
    rw [List.getElem?_eq_getElem (by omega)]
    exact (hx _ (List.getElem_mem _)).2
  by_cases h1 : okH q = true
  · have hall : [q, histL [v]].all okH = true := by simp [h1, hok]
    by_cases h2 : q[bkt v]? = some 9223372036854775807
    · have e : addE q v = 12 := by unfold addE; rw [if_neg (by simp [h1]), if_pos h2]
      obtain ⟨m1, m2⟩ := merge_over hall hb (by rw [hs, hw _ hb, if_pos rfl, h2]; simp)
      rw [m1, m2, e]
      exact ⟨by unfold addL; rw [e]; rfl, rfl⟩
    · have e : addE q v = 0 := by unfold addE; rw [if_neg (by simp [h1]), if_neg h2]
      obtain ⟨m1, m2⟩ := merge_fine hall (fun k hk => by
        rw [hs, hw k hk]
        have := hqj k hk
        split
        · rename_i e; subst e
          rcases Int.lt_or_eq_of_le this with q1 | q1
          · omega
          · exfalso
            apply h2
            rw [List.getElem?_eq_getElem (by omega)] at q1 ⊢
            simpa using q1
        · omega)
      rw [m1, m2, e]
      refine ⟨?_, rfl⟩
      unfold addL
      rw [e, if_pos rfl]
      refine ext65 (by rw [bump_len, hq]) (by simp [mergeL]) fun b hb2 => ?_
      have : (mergeL [q, histL [v]])[b]?.getD 0 = sumAt [q, histL [v]] b := by unfold mergeL; rw [List.getElem?_map, List.getElem?_range hb2]; rfl
      rw [this, hs, hw b hb2]
      unfold bump
      rw [List.getElem?_set]
      by_cases e : bkt v = b
      · subst e; simp [hq, hb]
      · simp [e]
  · have h1 : okH q = false := by simpa using h1
    have e : addE q v = 10 := by unfold addE; rw [if_pos h1]
    obtain ⟨m1, m2⟩ := merge_form (ls := [q, histL [v]]) (by simp [h1])
    rw [m1, m2, e]
    exact ⟨by unfold addL; rw [e]; rfl, rfl⟩
theorem dropK0 {k : List D → Prop} (xs : List D) (h : k xs) : dropK xs 0 k := by cases xs <;> exact h
/-! ### the arguments -/
theorem ty_long1 {P : Program} {m : Nat} {t : TypeId} {ds : List D} (h : Ty P (m + 1) t ds) (hu : P.underlying t = some (.int .i64)) : ∃ z, ds = [iD z] ∧ in64 z := by
  have h : TyB (Ty P m) P t ds := h
  unfold TyB at h
  rw [hu] at h
  obtain ⟨z, h1, h2⟩ := h
  exact ⟨z, h1, wf_i64 h2⟩
theorem ty_longs {P : Program} {t e : TypeId} {x : D} (h : TyV P t x) (hu : P.underlying t = some (.slice e)) (he : P.underlying e = some (.int .i64)) (hc : P.cellsOf e = 1) : ∃ l : List Int, x = lD l ∧ ∀ z ∈ l, in64 z := by
  obtain ⟨rows, rfl, h1, _⟩ := ty_slice h hu
  obtain ⟨l, rfl, h2⟩ := rows_map (f := lR) (p := in64) fun r hr => ty_long1 (h1 r hr) he
  exact ⟨l, by rw [hc], h2⟩
theorem flat_ints (l : List Int) : (l.map lR).flatten = hR l := by
  induction l with
  | nil => rfl
  | cons z l ih => rw [List.map_cons, List.flatten_cons, ih]; rfl
theorem ty_harr {P : Program} {m : Nat} {t e : TypeId} {ds : List D} (h : Ty P (m + 2) t ds) (hu : P.underlying t = some (.array 65 e)) (he : P.underlying e = some (.int .i64)) : ∃ q : List Int, ds = hR q ∧ q.length = 65 ∧ ∀ z ∈ q, in64 z := by
  have h : TyB (Ty P (m + 1)) P t ds := h
  unfold TyB at h
  rw [hu] at h
  obtain ⟨dss, rfl, h1, h2⟩ := h
  obtain ⟨l, rfl, h3⟩ := rows_map (f := lR) (p := in64) fun r hr => ty_long1 (h2 r hr) he
  exact ⟨l, flat_ints l, by simpa using h1, h3⟩
theorem ty_harrs {P : Program} {t a e : TypeId} {x : D} (h : TyV P t x) (hu : P.underlying t = some (.slice a)) (ha : P.underlying a = some (.array 65 e)) (he : P.underlying e = some (.int .i64)) (hc : P.cellsOf a = 65) : ∃ ls : List (List Int), x = .sl 65 (ls.map hR) ∧ (∀ l ∈ ls, l.length = 65) ∧ ∀ l ∈ ls, ∀ z ∈ l, in64 z := by
  obtain ⟨rows, rfl, h1, _⟩ := ty_slice h hu
  obtain ⟨ls, rfl, h2⟩ := rows_map (f := hR) (p := fun q => q.length = 65 ∧ ∀ z ∈ q, in64 z) fun r hr => ty_harr (h1 r hr) ha he
  exact ⟨ls, by rw [hc], fun l hl => (h2 l hl).1, fun l hl => (h2 l hl).2⟩
theorem ty_harr1 {P : Program} {t e : TypeId} {x : D} (h : TyV P t x) (hu : P.underlying t = some (.array 65 e)) (he : P.underlying e = some (.int .i64)) : ∃ q : List Int, x = hD q ∧ q.length = 65 ∧ ∀ z ∈ q, in64 z := by
  unfold TyV at h
  rw [hu] at h
  obtain ⟨ds, rfl, h⟩ := h
  obtain ⟨q, rfl, h1, h2⟩ := ty_harr h hu he
  exact ⟨q, rfl, h1, h2⟩
end Go.Proofs.Ytbjmdnemeidpjaa
/- HistRanks, its law: every Total, Rank and Full is answered as the document says. -/
namespace Go.Proofs.Ytbjmdnemeidpjaa
set_option linter.unusedSimpArgs false
set_option linter.unusedVariables false
open Go.RowKit
set_option maxRecDepth 100000
theorem full_sat (l : List Int) : Sat Try.prog 35 [.d (hD l)] [] (.fn (.func 80) [] [.ptr 0 0]) [.row (hR l)] := by
  refine sat_of_vc (T := tiOf Try.prog) (E := E0) Try.func35 rfl rfl hE0 hm0 rfl ?_
  conv => whnf
  repeat (any_goals (first
    | exact True.intro
    | (refine Or.inl ?_; conv => whnf)
    | (refine And.intro (fun _ => ?_) tf; conv => whnf)
    | (refine And.intro ft (fun _ => ?_); conv => whnf)
    | (refine And.intro (by kernel_rfl) ?_; conv => whnf)
    | (refine And.intro (by decide) ?_; conv => whnf)
    | (refine And.intro (fun _ => ?_) (fun h => absurd h (by decide)); conv => whnf)
    | (refine And.intro (fun h => absurd h (by decide)) (fun _ => ?_); conv => whnf)
    | (refine And.intro (fun _ => ?_) (fun _ => ?_) <;> conv => whnf)))
  all_goals refine ⟨[], ?_⟩
  repeat (any_goals (first | exact True.intro | exact rfl | with_reducible_and_instances rfl | exact (by kernel_rfl) | refine And.intro ?_ ?_))
  all_goals conv => whnf
theorem sum65 {l : List Int} (hl : l.length = 65) (hx : ∀ z ∈ l, in64 z) : in64 (hiZ l.sum) := by
  have := sum_abs l hx
  rw [hl] at this
  unfold hiZ word in64
  omega
/-- A wide number that is handed in. -/
theorem ty_wide {x : D} (h : TyV Try.prog 25 x) : ∃ K, x = wD K ∧ in64 (hiZ K) := by
  unfold TyV at h
  have hu := Try.underlying25
  rw [hu] at h
  obtain ⟨ds, rfl, g⟩ := h
  have g2 : TyB (Ty Try.prog 8) Try.prog 25 ds := g
  unfold TyB at g2
  rw [hu] at g2
  obtain ⟨dss, e0, g3⟩ := g2
  obtain ⟨d1, r1, e1, h1, g4⟩ := g3
  obtain ⟨d2, r2, e2, h2, g5⟩ := g4
  have g5 : r2 = [] := g5
  subst e0 e1 e2 g5
  obtain ⟨hi, rfl, hh⟩ := ty_long1 h1 Try.underlying2
  have h2 : TyB (Ty Try.prog 7) Try.prog 23 d2 := h2
  unfold TyB at h2
  rw [Try.underlying23] at h2
  obtain ⟨lo, rfl, hl⟩ := h2
  simp only [Lit.wf, Bool.and_eq_true, decide_eq_true_eq] at hl
  have hl : 0 ≤ lo ∧ lo ≤ 18446744073709551615 := hl
  obtain ⟨e1, e2⟩ := wideZ_hi (hi := hi) hl.1 (by unfold word; omega)
  refine ⟨wideZ hi lo, ?_, by rw [e1]; exact hh⟩
  show D.agg [iD hi, .v (.int .u64 lo)] = D.agg [.v (.int .i64 (hiZ (wideZ hi lo))), .v (.int .u64 (loZ (wideZ hi lo)))]
  rw [e1, e2]
end Go.Proofs.Ytbjmdnemeidpjaa
/- code, by conditions: Uints, Ints, Texts, bytes.Clone; the reader. -/
namespace Go.Proofs.Ytbjmdnemeidpjaa
set_option linter.unusedSimpArgs false
set_option linter.unusedVariables false
open Go.RowKit
set_option maxRecDepth 100000
section
variable {P : Program} {g : FuncId}
/-- A contract whose answer is a slice of its own, out of an elder one. -/
theorem Sat.ownNew1 {s0 s : Nat} {rows0 rows : List (List D)} {us0 us : List Value} {e : TypeId} (hf0 : FlatVs rows0.flatten us0) (hf : FlatVs rows.flatten us) (hs : ∀ r ∈ rows, r.length = s) (h0 : 0 < rows.length)
    (h : ∀ (w : World) (A : Option Addr) (c : Nat), rows0.length ≤ c → c ≤ maxLen → Rd w w.heap.size s0 A rows0.length us0 → Calls P g #[.slice A rows0.length c] w fun x w' => ∃ v, x = .returned v ∧ Ow w' w.heap.size e s v rows.length us ∧ Below w.heap.size w w') :
    Sat P g [.d (.sl s0 rows0)] [] (.own 0) [.sl s rows] := by
  intro F ρ w vals En hv
  obtain ⟨v, rfl, hv'⟩ := hv.one_out
  cases hv' with | d hv =>
    obtain ⟨A, c, rfl, h1, h2, hr⟩ := hv.sl_rd En.fb hf0
    refine (h w A c h1 h2 hr).mono ?_
    rintro x w' ⟨v, rfl, how, hb⟩
    have hlt : ∀ k, blkOf v = some k → k < w'.heap.size := fun k hk => by
      obtain ⟨g, off, cap, rfl, _, hg, _⟩ := how.open_ h0
      injection hk with hk
      subst hk
      exact hg
    have hG : w.grownBy w' none := ⟨hb.os, hb.tape, hb.output, hb.size, fun b h _ => hb.block b h⟩
    have hnone : hp ([] : List AObj) 0 = none := rfl
    obtain ⟨A', c', he, g1, g2, hrd⟩ := how.form
    subst he
    have how0 : Ow w' 0 0 s (.slice A' rows.length c') rows.length us := ⟨how.1, by
      rcases how.2 with h | ⟨a, h, _, h'⟩ | ⟨g, off, cap, h, _, h'⟩
      · exact .inl h
      · exact .inr (.inl ⟨a, h, Nat.zero_le _, h'⟩)
      · exact .inr (.inr ⟨g, off, cap, h, Nat.zero_le _, h'⟩)⟩
    obtain ⟨S, K, E⟩ := En.new (n := 0) (o' := .sl s rows) (h := .slice A' rows.length c') hnone hG (fun b hb' => ⟨how.lt b (by rw [← blk_own rfl]; exact hb'), hlt b hb'⟩) ⟨_, how0, hf.rds, hs⟩
    have e : updF (hp []) 0 (some (.sl s rows)) = hp [.sl s rows] := by
      funext i
      match i with
      | 0 => rfl
      | i + 1 => rfl
    rw [e] at S E
    exact ⟨_, rfl, F, _, S, K, E, .own (updF_same _ _ _)⟩
end
abbrev byD (x : UInt8) : D := .v (.int .u8 (x.toNat : Int))
abbrev bR (x : UInt8) : List D := [byD x]
abbrev bsD (l : List UInt8) : D := .sl 1 (l.map bR)
theorem bR_flats : ∀ (l : List UInt8), FlatVs (l.map bR).flatten (l.map bv)
  | [] => .nil
  | _ :: l => .cons (.v _) rfl (bR_flats l)
abbrev uR (x : Nat) : List D := [.v (.int .u64 (x : Int))]
theorem uR_flats : ∀ (l : List Nat), FlatVs (l.map uR).flatten (l.map u64v)
  | [] => .nil
  | _ :: l => .cons (.v _) rfl (uR_flats l)
abbrev strD (s : ByteArray) : D := .v (.string s)
theorem strR_flats : ∀ (l : List ByteArray), FlatVs (l.map fun s => [strD s]).flatten (l.map strv)
  | [] => .nil
  | _ :: l => .cons (.v _) rfl (strR_flats l)
theorem one_len {α : Type} {f : α → D} {l : List α} : ∀ r ∈ l.map (fun x => [f x]), r.length = 1 := fun r hr => by
  obtain ⟨x, _, rfl⟩ := List.mem_map.1 hr; rfl
theorem uints_sat (l : List Nat) (hn : l.length ≤ 65536) (hl : ∀ x ∈ l, x < 18446744073709551616) (h0 : 0 < (encs l).length) : Sat Try.prog 70 [.d (.sl 1 (l.map uR))] [] (.own 0) [.sl 1 ((encs l).map bR)] :=
  .ownNew1 (uR_flats l) (bR_flats (encs l)) one_len (by rw [List.length_map]; exact h0) fun w A c _ _ hr => by
    rw [List.length_map] at hr ⊢
    rw [List.length_map]
    exact uints_any A _ c l w hr hn hl
theorem ints_sat (l : List Int) (hn : l.length ≤ 65536) (hl : ∀ x ∈ l, in64 x) (h0 : 0 < (encs (l.map turnN)).length) : Sat Try.prog 71 [.d (lD l)] [] (.own 0) [.sl 1 ((encs (l.map turnN)).map bR)] :=
  .ownNew1 (lR_flats l) (bR_flats (encs (l.map turnN))) one_len (by rw [List.length_map]; exact h0) fun w A c _ _ hr => by
    rw [List.length_map] at hr ⊢
    rw [List.length_map]
    exact ints_any A _ c l w hr hn hl
theorem texts_sat (l : List ByteArray) (hn : l.length ≤ 65536) (hl : ∀ x ∈ l, x.size ≤ 65536) (h0 : 0 < (encTs l).length) : Sat Try.prog 72 [.d (.sl 1 (l.map fun s => [strD s]))] [] (.own 0) [.sl 1 ((encTs l).map bR)] :=
  .ownNew1 (strR_flats l) (bR_flats (encTs l)) one_len (by rw [List.length_map]; exact h0) fun w A c _ _ hr => by
    rw [List.length_map] at hr ⊢
    rw [List.length_map]
    exact texts_any A _ c 0 l w hr hn hl
theorem bclone_sat (l : List UInt8) (hn : l.length ≤ 65536) (h0 : 0 < l.length) : Sat Try.prog 96 [.d (bsD l)] [] (.own 0) [.sl 1 (l.map bR)] :=
  .ownNew1 (bR_flats l) (bR_flats l) one_len (by rw [List.length_map]; exact h0) fun w A c _ _ hr => by
    rw [List.length_map] at hr ⊢
    exact clone_any A _ c l w hr (by omega)
theorem first_sat (l : List UInt8) (hn : l.length ≤ 65536) : Sat Try.prog 97 [.d (bsD l)] [] (.tup [.d (.v (.int .u64 ((dec l).1 : Nat))), iA ((dec l).2.1 : Nat), iA ((dec l).2.2 : Nat)]) [] :=
  .of_sl (bR_flats l) .nil (.tup (.cons (.d (.v _)) (.cons (.d (.v _)) (.cons (.d (.v _)) .nil)))) fun w A c _ _ hr => by
    rw [List.length_map] at hr ⊢
    refine (first_any A _ c l w hr (by omega)).mono ?_
    rintro e w' ⟨rfl, rfl⟩
    exact ⟨rfl, Below.refl _ _⟩
theorem count_sat (l : List UInt8) (most : Int) (hm : in64 most) (hn : l.length ≤ 65536) : Sat Try.prog 100 [.d (bsD l), iA most] [] (.tup [iA ((cnt l most).1 : Nat), iA ((cnt l most).2.1 : Nat), iA ((cnt l most).2.2 : Nat)]) [] :=
  .of_sl (bR_flats l) (.cons (.d (.v _)) .nil) (.tup (.cons (.d (.v _)) (.cons (.d (.v _)) (.cons (.d (.v _)) .nil)))) fun w A c _ _ hr => by
    rw [List.length_map] at hr ⊢
    refine (count_any A _ c l most w hr (by omega) hm.2).mono ?_
    rintro e w' ⟨rfl, rfl⟩
    exact ⟨rfl, Below.refl _ _⟩
/-- A reader: what is left, its error. -/
abbrev rdO (l : List UInt8) (e : Int) : AObj := .cells [.d (bsD l), iA e]
theorem take_sat (l : List UInt8) (k : Nat) (hk : k ≤ l.length) (hn : l.length ≤ 65536) : Sat Try.prog 98 [.ptr 0 0, iA k, iA 0] [rdO l 0] (bA true) [rdO (l.drop k) 0] := by
  refine sat_of_vc (T := tiOf Try.prog) (E := E0) Try.func98 rfl rfl hE0 hm0 rfl ?_
  conv => whnf
  iterate 5
    repeat (any_goals (first
      | exact True.intro
      | (refine And.intro (fun _ => ?_) tf; conv => whnf)
      | (refine And.intro ft (fun _ => ?_); conv => whnf)
      | (refine And.intro (by kernel_rfl) ?_; conv => whnf)
      | (refine And.intro (by decide) ?_; conv => whnf)
      | (refine And.intro (fun _ => ?_) (fun h => absurd h (by decide)); conv => whnf)
      | (refine And.intro (fun h => absurd h (by decide)) (fun _ => ?_); conv => whnf)
      | (refine And.intro (fun _ => ?_) (fun _ => ?_) <;> conv => whnf)
      | (refine ⟨_, _, from_d 1 1 (by kernel_rfl) (by simpa using hk), ?_⟩; conv => whnf)))
    all_goals try (refine Or.inl ?_; conv => whnf)
  all_goals refine ⟨[], ?_⟩
  repeat (any_goals (first | exact True.intro | exact rfl | with_reducible_and_instances rfl | exact (by kernel_rfl) | refine And.intro ?_ ?_))
  all_goals conv => whnf
  exact congrArg (fun r => AV.d (.sl 1 r)) (List.map_drop (f := bR) (l := l) (i := k)).symm
theorem dec_size (l : List UInt8) : (dec l).2.1 ≤ l.length := by
  have := (dec_bounds l 0 0 (dec l).1 (dec l).2.1 (dec l).2.2 (by omega) (by simp) rfl).2.1
  omega
theorem uint_sat (l : List UInt8) (hn : l.length ≤ 65536) (he : (dec l).2.2 = 0) : Sat Try.prog 64 [.ptr 0 0] [rdO l 0] (.d (.v (.int .u64 ((dec l).1 : Nat)))) [rdO (l.drop (dec l).2.1) 0] := by
  have f1 := first_sat l hn
  rw [he] at f1
  have t1 := take_sat l (dec l).2.1 (dec_size l) hn
  refine sat_of_vc (T := tiOf Try.prog) (E := E0) Try.func64 rfl rfl hE0 hm0 rfl ?_
  conv => whnf
  iterate 5
    repeat (any_goals (first
      | exact True.intro
      | (refine And.intro (fun _ => ?_) tf; conv => whnf)
      | (refine And.intro ft (fun _ => ?_); conv => whnf)
      | (refine And.intro (by kernel_rfl) ?_; conv => whnf)
      | (refine And.intro (by decide) ?_; conv => whnf)
      | (refine And.intro (fun _ => ?_) (fun h => absurd h (by decide)); conv => whnf)
      | (refine And.intro (fun h => absurd h (by decide)) (fun _ => ?_); conv => whnf)
      | (refine And.intro (fun _ => ?_) (fun _ => ?_) <;> conv => whnf)
      | (refine ⟨_, _, f1.pu rfl rfl, ?_⟩; conv => whnf)
      | (refine ⟨_, _, t1.at1 0 rfl rfl rfl, ?_⟩; conv => whnf)))
    all_goals try (refine Or.inl ?_; conv => whnf)
  all_goals refine ⟨[], ?_⟩
  repeat (any_goals (first | exact True.intro | exact rfl | with_reducible_and_instances rfl | exact (by kernel_rfl) | refine And.intro ?_ ?_))
  all_goals conv => whnf
theorem unturn_sat (u : Nat) (h : u < 18446744073709551616) : Sat Try.prog 99 [.d (.v (.int .u64 (u : Int)))] [] (iA (unturnZ u)) [] :=
  .of_same (.cons (.d (.v _)) .nil) (.d (.v _)) fun w => unturn_any u w h
theorem int_sat (l : List UInt8) (hn : l.length ≤ 65536) (he : (dec l).2.2 = 0) (hu : (dec l).1 < 18446744073709551616) : Sat Try.prog 65 [.ptr 0 0] [rdO l 0] (iA (unturnZ (dec l).1)) [rdO (l.drop (dec l).2.1) 0] := by
  have f1 := uint_sat l hn he
  have t1 := unturn_sat (dec l).1 hu
  refine sat_of_vc (T := tiOf Try.prog) (E := E0) Try.func65 rfl rfl hE0 hm0 rfl ?_
  conv => whnf
  iterate 5
    repeat (any_goals (first
      | exact True.intro
      | (refine And.intro (fun _ => ?_) tf; conv => whnf)
      | (refine And.intro ft (fun _ => ?_); conv => whnf)
      | (refine And.intro (by kernel_rfl) ?_; conv => whnf)
      | (refine And.intro (by decide) ?_; conv => whnf)
      | (refine And.intro (fun _ => ?_) (fun h => absurd h (by decide)); conv => whnf)
      | (refine And.intro (fun h => absurd h (by decide)) (fun _ => ?_); conv => whnf)
      | (refine And.intro (fun _ => ?_) (fun _ => ?_) <;> conv => whnf)
      | (refine ⟨_, _, f1.at1 0 rfl rfl rfl, ?_⟩; conv => whnf)
      | (refine ⟨_, _, t1.pu rfl rfl, ?_⟩; conv => whnf)))
    all_goals try (refine Or.inl ?_; conv => whnf)
  all_goals refine ⟨[], ?_⟩
  repeat (any_goals (first | exact True.intro | exact rfl | with_reducible_and_instances rfl | exact (by kernel_rfl) | refine And.intro ?_ ?_))
  all_goals conv => whnf
theorem count_size (l : List UInt8) (most : Int) : (cnt l most).2.1 ≤ l.length := (cnt_bounds l most).2.1
theorem countM_sat (l : List UInt8) (most : Int) (hm : in64 most) (hn : l.length ≤ 65536) (he : (cnt l most).2.2 = 0) : Sat Try.prog 67 [.ptr 0 0, iA most] [rdO l 0] (iA ((cnt l most).1 : Nat)) [rdO (l.drop (cnt l most).2.1) 0] := by
  have f1 := count_sat l most hm hn
  rw [he] at f1
  have t1 := take_sat l (cnt l most).2.1 (count_size l most) hn
  refine sat_of_vc (T := tiOf Try.prog) (E := E0) Try.func67 rfl rfl hE0 hm0 rfl ?_
  conv => whnf
  iterate 5
    repeat (any_goals (first
      | exact True.intro
      | (refine And.intro (fun _ => ?_) tf; conv => whnf)
      | (refine And.intro ft (fun _ => ?_); conv => whnf)
      | (refine And.intro (by kernel_rfl) ?_; conv => whnf)
      | (refine And.intro (by decide) ?_; conv => whnf)
      | (refine And.intro (fun _ => ?_) (fun h => absurd h (by decide)); conv => whnf)
      | (refine And.intro (fun h => absurd h (by decide)) (fun _ => ?_); conv => whnf)
      | (refine And.intro (fun _ => ?_) (fun _ => ?_) <;> conv => whnf)
      | (refine ⟨_, _, f1.pu rfl rfl, ?_⟩; conv => whnf)
      | (refine ⟨_, _, t1.at1 0 rfl rfl rfl, ?_⟩; conv => whnf)))
    all_goals try (refine Or.inl ?_; conv => whnf)
  all_goals refine ⟨[], ?_⟩
  repeat (any_goals (first | exact True.intro | exact rfl | with_reducible_and_instances rfl | exact (by kernel_rfl) | refine And.intro ?_ ?_))
  all_goals conv => whnf
theorem end_sat : Sat Try.prog 68 [.ptr 0 0] [rdO [] 0] (iA 0) [rdO [] 0] := by
  refine sat_of_vc (T := tiOf Try.prog) (E := E0) Try.func68 rfl rfl hE0 hm0 rfl ?_
  conv => whnf
  iterate 5
    repeat (any_goals (first
      | exact True.intro
      | (refine And.intro (fun _ => ?_) tf; conv => whnf)
      | (refine And.intro ft (fun _ => ?_); conv => whnf)
      | (refine And.intro (by kernel_rfl) ?_; conv => whnf)
      | (refine And.intro (by decide) ?_; conv => whnf)
      | (refine And.intro (fun _ => ?_) (fun h => absurd h (by decide)); conv => whnf)
      | (refine And.intro (fun h => absurd h (by decide)) (fun _ => ?_); conv => whnf)
      | (refine And.intro (fun _ => ?_) (fun _ => ?_) <;> conv => whnf)))
    all_goals try (refine Or.inl ?_; conv => whnf)
  all_goals refine ⟨[], ?_⟩
  repeat (any_goals (first | exact True.intro | exact rfl | with_reducible_and_instances rfl | exact (by kernel_rfl) | refine And.intro ?_ ?_))
  all_goals conv => whnf
/-- The string of bytes. -/
theorem str_d {L : List AObj} {ty n : Nat} {x : Operand} (l : List UInt8) : Does Try.prog (.convert 67 9 x) ty L n [.d (bsD l)] e0 (.d (strD ⟨l.toArray⟩)) := by
  intro o H F ρ w ev ho ht En _ _ hx
  have hops : (Op.operands (.convert 67 9 x)).toList = [x] := by simp [Op.operands]
  rw [hops] at hx
  obtain ⟨v, e, hv⟩ := hx.one_out
  cases hv with | d hv =>
  obtain ⟨A, c, rfl, h1, h2, hr⟩ := hv.sl_rd En.fb (bR_flats l)
  rw [List.length_map] at hr e
  have := string_any w A _ c l hr
  simp at e
  have hrun : (execOp ev o).run Try.prog w = .ok (.value (.string ⟨l.toArray⟩)) w := by
    simp [execOp, ho, e, this]
  rw [hrun]
  exact Post.same En (.d (.v _))
theorem noT {l : List UInt8} {s n : Nat} (h : s + n ≤ l.length) (hn : l.length ≤ 65536) (q : decide ((n : Int) > IntKind.i64.wrap (((l.map bR).length : Int) - (s : Int))) = true) : False := by
  have q := of_decide_eq_true q
  rw [List.length_map, wi (by omega) (by omega)] at q
  omega
theorem text_sat (l : List UInt8) (most : Int) (n s : Nat) (hm : in64 most) (hn : l.length ≤ 65536) (hc : cnt l most = (n, s, 0)) (hs : s + n ≤ l.length) : Sat Try.prog 66 [.ptr 0 0, iA most] [rdO l 0] (.d (strD ⟨((l.take (s + n)).drop s).toArray⟩)) [rdO (l.drop (s + n)) 0] := by
  have f1 := count_sat l most hm hn
  rw [hc] at f1
  have t1 := take_sat l (s + n) hs hn
  have e1 : IntKind.i64.wrap ((s : Int) + (n : Int)) = ((s + n : Nat) : Int) := by rw [wi (by omega) (by omega)]; rfl
  have hm2 : (l.map bR).length = l.length := List.length_map _
  refine sat_of_vc (T := tiOf Try.prog) (E := E0) Try.func66 rfl rfl hE0 hm0 rfl ?_
  conv => whnf
  iterate 3
    repeat (any_goals (first
      | exact True.intro
      | (rw [e1]; conv => whnf)
      | (refine And.intro (fun _ => ?_) tf; conv => whnf)
      | (refine And.intro ft (fun _ => ?_); conv => whnf)
      | (refine And.intro (by kernel_rfl) ?_; conv => whnf)
      | (refine And.intro (by decide) ?_; conv => whnf)
      | (refine And.intro (fun _ => ?_) (fun h => absurd h (by decide)); conv => whnf)
      | (refine And.intro (fun h => absurd h (by decide)) (fun _ => ?_); conv => whnf)
      | (refine And.intro (fun _ => ?_) (fun _ => ?_) <;> conv => whnf)
      | (refine ⟨_, _, f1.pu rfl rfl, ?_⟩; conv => whnf)
      | (refine ⟨_, _, t1.at1 0 rfl rfl rfl, ?_⟩; conv => whnf)
      | (refine ⟨_, _, sl_d (lo := s) (hi := s + n) 1 1 (by kernel_rfl) (by omega) (by rw [hm2]; exact hs), ?_⟩; conv => whnf)
      | (refine ⟨_, _, (by rw [← List.map_take, ← List.map_drop]; exact str_d ((l.take (s + n)).drop s)), ?_⟩; conv => whnf)))
    all_goals try (exfalso; simp only [decide_eq_true_eq, decide_eq_false_iff_not, Bool.not_eq_true', Bool.not_eq_false', Bool.not_eq_true, Bool.not_eq_false, beq_iff_eq, bne_iff_ne, beq_eq_false_iff_ne, bne_eq_false_iff_eq, ne_eq, Decidable.not_not] at *; first | omega | contradiction | (simp_all; done) | (simp_all; omega))
    all_goals try (refine Or.inl ?_; conv => whnf)
  all_goals try exact (noT hs hn ‹_›).elim
  all_goals refine ⟨[], ?_⟩
  repeat (any_goals (first | exact True.intro | exact rfl | with_reducible_and_instances rfl | exact (by kernel_rfl) | refine And.intro ?_ ?_))
  all_goals conv => whnf
theorem newR_sat (l : List UInt8) (hn : l.length ≤ 65536) (h0 : 0 < l.length) : Sat Try.prog 63 [.d (bsD l)] [] (.ptr 1 0) [.dead, rdO l 0] := by
  have c1 := bclone_sat l hn h0
  refine sat_of_vc (T := tiOf Try.prog) (E := E0) Try.func63 rfl rfl hE0 hm0 rfl ?_
  conv => whnf
  iterate 3
    repeat (any_goals (first
      | exact True.intro
      | (refine And.intro (fun _ => ?_) tf; conv => whnf)
      | (refine And.intro ft (fun _ => ?_); conv => whnf)
      | (refine And.intro (by kernel_rfl) ?_; conv => whnf)
      | (refine And.intro (by decide) ?_; conv => whnf)
      | (refine And.intro (fun _ => ?_) (fun h => absurd h (by decide)); conv => whnf)
      | (refine And.intro (fun h => absurd h (by decide)) (fun _ => ?_); conv => whnf)
      | (refine And.intro (fun _ => ?_) (fun _ => ?_) <;> conv => whnf)
      | (refine ⟨_, _, c1.nw rfl, ?_⟩; conv => whnf)))
    all_goals try (refine Or.inl ?_; conv => whnf)
  all_goals refine ⟨[], ?_⟩
  repeat (any_goals (first | exact True.intro | exact rfl | with_reducible_and_instances rfl | exact (by kernel_rfl) | refine And.intro ?_ ?_))
  all_goals conv => whnf
end Go.Proofs.Ytbjmdnemeidpjaa
/- Strings and bytes: conversions as operations; wide.Bytes, wide.Back. -/
namespace Go.Proofs.Ytbjmdnemeidpjaa
set_option linter.unusedSimpArgs false
set_option linter.unusedVariables false
open Go.RowKit
set_option maxRecDepth 100000
/-- The string of bytes of the call's own. -/
theorem str_o {L : List AObj} {ty n i : Nat} {x : Operand} (l : List UInt8) (hi : L[i]? = some (.sl 1 (l.map bR))) : Does Try.prog (.convert 67 9 x) ty L n [.own i] ⟨[i], [], []⟩ (.d (strD ⟨l.toArray⟩)) := by
  intro o H F ρ w ev ho ht En hrs hn hx
  have hops : (Op.operands (.convert 67 9 x)).toList = [x] := by simp [Op.operands]
  rw [hops] at hx
  obtain ⟨v, e, hv⟩ := hx.one_out
  have hi0 : H i = some (.sl 1 (l.map bR)) := by rw [hrs i (by simp)]; exact hi
  cases hv with | own hv =>
    rename_i A m c
    obtain ⟨hh, e1, ⟨vs, how, hra, hs1⟩, e3⟩ := En.rep i _ hi0 rfl
    rw [hv] at e1; injection e1 with e1; subst e1
    obtain ⟨A', c', he, g1, g2, hrd⟩ := how.form
    injection he with q1 q2 q3
    subst q1 q2 q3
    have := (bR_flats l).eq hra
    subst this
    have := string_any w A _ c l hrd
    simp at e
    have hrun : (execOp ev o).run Try.prog w = .ok (.value (.string ⟨l.toArray⟩)) w := by
      simp [execOp, ho, e]
      rw [List.length_map] at this
      simp [this]
    rw [hrun]
    exact Post.same En (.d (.v _))
/-- The bytes of a string: a new slice of the call's own. -/
theorem bytes_s {L : List AObj} {ty n : Nat} {x : Operand} (l : List UInt8) (hl : l.length ≤ 65536) : Does Try.prog (.convert 9 67 x) ty L n [.d (strD ⟨l.toArray⟩)] ⟨[], [], [.sl 1 (l.map bR)]⟩ (.own n) := by
  intro o H F ρ w ev ho ht En hrs hn hx
  have hops : (Op.operands (.convert 9 67 x)).toList = [x] := by simp [Op.operands]
  rw [hops] at hx
  obtain ⟨v, e, hv⟩ := hx.one_out
  have := hv.v_out
  subst this
  simp at e
  have hn0 : H n = none := by simpa using hn 0 (by simp)
  have hconv := run_bytes_of_string (P := Try.prog) w 9 67 5 ⟨l.toArray⟩ Try.underlying9 Try.underlying67 Try.underlying5
  have hsz : (⟨l.toArray⟩ : ByteArray).size = l.length := by simp [ByteArray.size]
  have hge := grownCap_ge w (⟨l.toArray⟩ : ByteArray).size 0 5
  have hle := grownCap_le_maxLen w (⟨l.toArray⟩ : ByteArray).size 0 5 (by rw [hsz]; unfold maxLen; omega)
  generalize grownCap w (⟨l.toArray⟩ : ByteArray).size 0 5 = cap at hconv hge hle
  rw [hsz] at hconv hge
  have hrow : (bytesRow ⟨l.toArray⟩ cap).size = cap := by unfold bytesRow; simp [ByteArray.size]; omega
  rw [hrow] at hconv
  generalize hw : (w.drew.alloc (.cells (bytesRow ⟨l.toArray⟩ cap) 5 (cap, cap + 1))) = w' at hconv
  have hheap : w'.heap = w.heap.push (.cells (bytesRow ⟨l.toArray⟩ cap) 5 (cap, cap + 1)) := by rw [← hw]; rfl
  have hat : w'.heap[w.heap.size]? = some (.cells (bytesRow ⟨l.toArray⟩ cap) 5 (cap, cap + 1)) := by rw [hheap, Array.getElem?_push_size]
  have hsw : w'.heap.size = w.heap.size + 1 := by rw [hheap, Array.size_push]
  have hos : w'.os = w.os ∧ w'.tape = w.tape ∧ w'.output = w.output := by rw [← hw]; exact ⟨rfl, rfl, rfl⟩
  have hcell : ∀ j, w'.cell? ⟨w.heap.size, 0 + j, none⟩ = (bytesRow ⟨l.toArray⟩ cap)[j]? := fun j => by
    rw [← hw, Nat.zero_add]
    exact World.cell?_alloc_mark ..
  have hfr : ∀ j, j < cap → w'.frozen? ⟨w.heap.size, 0 + j, none⟩ = false := fun j hj => by
    unfold World.frozen?
    simp only [hat]
    rw [decide_eq_false (by omega)]
    rfl
  have hrun : (execOp ev o).run Try.prog w = .ok (.value (.slice (some ⟨w.heap.size, 0, none⟩) l.length cap)) w' := by
    simp [execOp, ho, e, hconv]
  rw [hrun]
  have how : Ow w' 0 0 1 (.slice (some ⟨w.heap.size, 0, none⟩) l.length cap) l.length (l.map bv) := by
    refine ⟨by simp, .inr (.inr ⟨w.heap.size, 0, cap, rfl, Nat.zero_le _, ?_, hge, hle, fun j hj => ⟨?_, ?_⟩, fun j hj => ?_⟩)⟩
    · rw [hsw]; exact Nat.lt_succ_self _
    · rw [hcell, Array.getElem?_eq_getElem (by rw [hrow]; omega)]; rfl
    · exact hfr j (by omega)
    · have hj : j < l.length := by simpa using hj
      rw [hcell, bytesRow_at _ _ _ (by simpa [ByteArray.size] using hj)]
      simp [bv]
  have hG : w.grownBy w' none := by
    exact ⟨hos.1, hos.2.1, hos.2.2, by rw [hsw]; exact Nat.le_succ _, fun b hb _ => by rw [hheap, Array.getElem?_push_lt hb, Array.getElem?_eq_getElem hb]⟩
  obtain ⟨S, K, E⟩ := En.new (n := n) (o' := .sl 1 (l.map bR)) (h := .slice (some ⟨w.heap.size, 0, none⟩) l.length cap) hn0 hG (fun b hb => by
    injection hb with hb
    subst hb
    refine ⟨Nat.le_refl _, ?_⟩
    rw [hsw]; exact Nat.lt_succ_self _) ⟨l.map bv, by rw [List.length_map]; exact how, (bR_flats l).rds, one_len⟩
  have e' : updF H n (some (.sl 1 (l.map bR))) = appN n [.sl 1 (l.map bR)] (appW [] H) := rfl
  rw [e'] at S E
  exact ⟨F, _, S, K, E, .own (updF_same _ _ _)⟩
end Go.Proofs.Ytbjmdnemeidpjaa
/- Cells, in plain Lean: fold, right, note, merge; sums of 128 bits. -/
namespace Go.Proofs.Ytbjmdnemeidpjaa
set_option linter.unusedSimpArgs false
set_option linter.unusedVariables false
open Go.RowKit
set_option linter.unusedSectionVars false
/-- A cell: how many values, their sum, the least, the greatest, the tallies, the buckets. -/
structure Cel where
  n : Int
  s : Int
  mn : Int
  mx : Int
  ce : Int
  po : Int
  h : List Int
deriving DecidableEq
theorem Cel.ext' {a b : Cel} (h1 : a.n = b.n) (h2 : a.s = b.s) (h3 : a.mn = b.mn) (h4 : a.mx = b.mx) (h5 : a.ce = b.ce) (h6 : a.po = b.po) (h7 : a.h = b.h) : a = b := by
  cases a; cases b; simp_all
def zC : Cel := ⟨0, 0, 0, 0, 0, 0, z65⟩
def in128 (z : Int) : Prop := in64 (hiZ z)
instance (z : Int) : Decidable (in128 z) := by unfold in128 in64; infer_instance
structure CelOK (c : Cel) : Prop where
  n : in64 c.n
  s : in128 c.s
  mn : in64 c.mn
  mx : in64 c.mx
  ce : in64 c.ce
  po : in64 c.po
  hl : c.h.length = 65
  hx : ∀ z ∈ c.h, in64 z
/-- The least and the greatest of what has come. -/
def mmin (l : List Int) : Int := match l with | [] => 0 | x :: r => r.foldl min x
def mmax (l : List Int) : Int := match l with | [] => 0 | x :: r => r.foldl max x
def foldC (l : List Int) : Cel := ⟨l.length, l.sum, mmin l, mmax l, 0, 0, histL l⟩
def hAt (h : List Int) (b : Nat) : Int := h[b]?.getD 0
def inB (c : Cel) : Bool := (List.range 65).all fun b => decide (hAt c.h b = 0 ∨ (bkt c.mn ≤ b ∧ b ≤ bkt c.mx))
def rightC (c : Cel) : Bool := decide (0 ≤ c.n ∧ 0 ≤ c.ce ∧ 0 ≤ c.po ∧ c.mn ≤ c.mx) && okH c.h && decide (c.h.sum = c.n) &&
  (if c.n = 0 then decide (c.s = 0 ∧ c.mn = 0 ∧ c.mx = 0) else decide (hAt c.h (bkt c.mn) ≠ 0 ∧ hAt c.h (bkt c.mx) ≠ 0) && inB c)
def big : Int := 9223372036854775807
def noteC (c : Cel) (b : Bool) : Cel × Int := if rightC c = false then (zC, 10) else
  if (if b then c.ce else c.po) = big then (zC, 12) else (⟨c.n, c.s, c.mn, c.mx, if b then c.ce + 1 else c.ce, if b then c.po else c.po + 1, c.h⟩, 0)
def addC (c : Cel) (v : Int) : Cel × Int := if rightC c = false then (zC, 10) else
  if c.n = big then (zC, 12) else if ¬ in128 (c.s + v) then (zC, 12) else
  (⟨c.n + 1, c.s + v, if c.n = 0 then v else min c.mn v, if c.n = 0 then v else max c.mx v, c.ce, c.po, bump c.h (bkt v)⟩, 0)
def sumN (l : List Cel) : Int := (l.map (·.n)).sum
def sumS (l : List Cel) : Int := (l.map (·.s)).sum
def sumCe (l : List Cel) : Int := (l.map (·.ce)).sum
def sumPo (l : List Cel) : Int := (l.map (·.po)).sum
def full (l : List Cel) : List Cel := l.filter fun c => decide (c.n ≠ 0)
def fitsC (l : List Cel) : Bool := decide (sumN l ≤ big ∧ sumCe l ≤ big ∧ sumPo l ≤ big ∧ in128 (sumS l))
def joinC (l : List Cel) : Cel := ⟨sumN l, sumS l, mmin ((full l).map (·.mn)), mmax ((full l).map (·.mx)), sumCe l, sumPo l, mergeL (l.map (·.h))⟩
def mergeC (l : List Cel) : Cel × Int := if l.all rightC = false then (zC, 10) else if fitsC l = false then (zC, 12) else (joinC l, 0)
/-! ### the least and the greatest -/
theorem foldl_min : ∀ (r : List Int) (x y : Int), min y (r.foldl min x) = r.foldl min (min y x)
  | [], _, _ => rfl
  | z :: r, x, y => by rw [List.foldl_cons, List.foldl_cons, foldl_min r, Int.min_assoc]
theorem foldl_max : ∀ (r : List Int) (x y : Int), max y (r.foldl max x) = r.foldl max (max y x)
  | [], _, _ => rfl
  | z :: r, x, y => by rw [List.foldl_cons, List.foldl_cons, foldl_max r, Int.max_assoc]
theorem mmin_snoc (l : List Int) (v : Int) : mmin (l ++ [v]) = if l = [] then v else min (mmin l) v := by
  cases l with
  | nil => rfl
  | cons x r => simp [mmin, List.foldl_append]
theorem mmax_snoc (l : List Int) (v : Int) : mmax (l ++ [v]) = if l = [] then v else max (mmax l) v := by
  cases l with
  | nil => rfl
  | cons x r => simp [mmax, List.foldl_append]
theorem mmin_mem : ∀ (l : List Int), l ≠ [] → mmin l ∈ l ∧ ∀ x ∈ l, mmin l ≤ x := by
  intro l h
  match l, h with
  | x :: r, _ =>
    clear h
    induction r generalizing x with
    | nil => simp [mmin]
    | cons y r ih =>
      have e : mmin (x :: y :: r) = min x (mmin (y :: r)) := by simp only [mmin, List.foldl_cons]; rw [foldl_min]
      obtain ⟨h1, h2⟩ := ih y (by simp)
      rw [e]
      refine ⟨?_, fun z hz => ?_⟩
      · rcases Int.le_total x (mmin (y :: r)) with q | q
        · rw [Int.min_eq_left q]; exact List.mem_cons_self ..
        · rw [Int.min_eq_right q]; exact List.mem_cons_of_mem _ h1
      · rcases List.mem_cons.1 hz with q | q
        · subst q; exact Int.min_le_left _ _
        · exact Int.le_trans (Int.min_le_right _ _) (h2 z q)
theorem mmax_mem : ∀ (l : List Int), l ≠ [] → mmax l ∈ l ∧ ∀ x ∈ l, x ≤ mmax l := by
  intro l h
  match l, h with
  | x :: r, _ =>
    clear h
    induction r generalizing x with
    | nil => simp [mmax]
    | cons y r ih =>
      have e : mmax (x :: y :: r) = max x (mmax (y :: r)) := by simp only [mmax, List.foldl_cons]; rw [foldl_max]
      obtain ⟨h1, h2⟩ := ih y (by simp)
      rw [e]
      refine ⟨?_, fun z hz => ?_⟩
      · rcases Int.le_total x (mmax (y :: r)) with q | q
        · rw [Int.max_eq_right q]; exact List.mem_cons_of_mem _ h1
        · rw [Int.max_eq_left q]; exact List.mem_cons_self ..
      · rcases List.mem_cons.1 hz with q | q
        · subst q; exact Int.le_max_left _ _
        · exact Int.le_trans (h2 z q) (Int.le_max_right _ _)
theorem mmin_perm {l l' : List Int} (h : l.Perm l') : mmin l = mmin l' := by
  by_cases e : l = []
  · subst e; rw [List.nil_perm.1 h]
  · have e' : l' ≠ [] := fun q => e (by subst q; exact List.perm_nil.1 h)
    obtain ⟨h1, h2⟩ := mmin_mem l e
    obtain ⟨h3, h4⟩ := mmin_mem l' e'
    exact Int.le_antisymm (h2 _ (h.mem_iff.2 h3)) (h4 _ (h.mem_iff.1 h1))
theorem mmax_perm {l l' : List Int} (h : l.Perm l') : mmax l = mmax l' := by
  by_cases e : l = []
  · subst e; rw [List.nil_perm.1 h]
  · have e' : l' ≠ [] := fun q => e (by subst q; exact List.perm_nil.1 h)
    obtain ⟨h1, h2⟩ := mmax_mem l e
    obtain ⟨h3, h4⟩ := mmax_mem l' e'
    exact Int.le_antisymm (h4 _ (h.mem_iff.1 h1)) (h2 _ (h.mem_iff.2 h3))
theorem mm_in {l : List Int} (h : ∀ z ∈ l, in64 z) : in64 (mmin l) ∧ in64 (mmax l) := by
  by_cases e : l = []
  · subst e; exact ⟨by unfold in64; simp [mmin], by unfold in64; simp [mmax]⟩
  · exact ⟨h _ (mmin_mem l e).1, h _ (mmax_mem l e).1⟩
/-! ### what a right cell is -/
structure RightC (c : Cel) : Prop where
  n : 0 ≤ c.n
  ce : 0 ≤ c.ce
  po : 0 ≤ c.po
  mm : c.mn ≤ c.mx
  ok : okH c.h = true
  sum : c.h.sum = c.n
  zero : c.n = 0 → c.s = 0 ∧ c.mn = 0 ∧ c.mx = 0
  low : c.n ≠ 0 → hAt c.h (bkt c.mn) ≠ 0
  high : c.n ≠ 0 → hAt c.h (bkt c.mx) ≠ 0
  all : c.n ≠ 0 → ∀ b, b < 65 → hAt c.h b ≠ 0 → bkt c.mn ≤ b ∧ b ≤ bkt c.mx
theorem right_iff {c : Cel} : rightC c = true ↔ RightC c := by
  unfold rightC
  simp only [Bool.and_eq_true, decide_eq_true_eq]
  constructor
  · rintro ⟨⟨⟨⟨h1, h2, h3, h4⟩, h5⟩, h6⟩, h7⟩
    by_cases e : c.n = 0
    · rw [if_pos e] at h7
      have h7 := of_decide_eq_true h7
      exact ⟨h1, h2, h3, h4, h5, h6, fun _ => h7, fun h => absurd e h, fun h => absurd e h, fun h => absurd e h⟩
    · rw [if_neg e, Bool.and_eq_true] at h7
      have h8 := of_decide_eq_true h7.1
      refine ⟨h1, h2, h3, h4, h5, h6, fun h => absurd h e, fun _ => h8.1, fun _ => h8.2, fun _ b hb hne => ?_⟩
      have := List.all_eq_true.1 h7.2 b (List.mem_range.2 hb)
      have := of_decide_eq_true this
      rcases this with q | q
      · exact absurd q hne
      · exact q
  · intro h
    refine ⟨⟨⟨⟨h.n, h.ce, h.po, h.mm⟩, h.ok⟩, h.sum⟩, ?_⟩
    by_cases e : c.n = 0
    · rw [if_pos e]; exact decide_eq_true (h.zero e)
    · rw [if_neg e, Bool.and_eq_true]
      refine ⟨decide_eq_true ⟨h.low e, h.high e⟩, List.all_eq_true.2 fun b hb => decide_eq_true ?_⟩
      by_cases q : hAt c.h b = 0
      · exact .inl q
      · exact .inr (h.all e b (List.mem_range.1 hb) q)
end Go.Proofs.Ytbjmdnemeidpjaa
