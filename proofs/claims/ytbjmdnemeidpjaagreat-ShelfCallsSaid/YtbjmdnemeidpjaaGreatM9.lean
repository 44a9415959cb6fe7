/- Parts Hr, CeA, CeB, HistG, HistF, Use, CodePlain, CodeA, CodeB, CodeC, CodeD, Str, CodeE, CodeF, HistH, Hk, Hf, Ht, Hq, CeC, SafeAdd, CeD, CeE of the proof, put together. -/
import Derived.Test.YtbjmdnemeidpjaaGreatM8
import Derived.RangeFuncNested
import Derived.RangeFuncBound
import Derived.RangeFuncCalls
import Derived.RangeFuncLeaves
import Derived.Shelf.Abstract
import Derived.Shelf.RegionOpen
import Derived.OwnWalkIn
import Derived.TacticsInMore
import Derived.LoopNIn
import Derived.LoopIn
import Derived.Test.YtbjmdnemeidpjaaGreatProg
import Derived.Laws.BitsAllLaws
import Derived.WalkKit
import Derived.Lib.AppendStr
import Derived.Laws.IdiomStrings
import Derived.Lib.BufferRead
import Derived.Outline
import Derived.RangeFuncFrom
import Derived.TacticsIn
import Derived.OrdersIn
/- The document's histograms: Of, right, Merge, Rank. -/
namespace Go.Proofs.YtbjmdnemeidpjaaGreat
set_option linter.unusedSimpArgs false
set_option linter.unusedVariables false
open Go.RowKit
set_option maxRecDepth 100000
theorem refBucket_sat (v : Int) (h : in64 v) : Sat Tryz.prog 66 [iA v] [] (iA (bkt v)) [] :=
  .of_same (.cons (.d (.v _)) .nil) (.d (.v _)) fun w => refBucket_any v w h.1 h.2
theorem hR_len (l : List Int) : (hR l).length = l.length := List.length_map _
theorem drop_row {l : List Int} {k : Nat} {x : Int} (hx : l[k]? = some x) : (hR l).drop (0 + k * 1) = iD x :: (hR l).drop (k + 1) := by
  obtain ⟨hk, rfl⟩ := List.getElem?_eq_some_iff.1 hx
  rw [Nat.zero_add, Nat.mul_one, List.drop_eq_getElem_cons (by rw [hR_len]; exact hk)]
  simp [hR]
theorem all_take {p : Int → Bool} {l : List Int} {k : Nat} {x : Int} (hx : l[k]? = some x) : (l.take (k + 1)).all p = ((l.take k).all p && p x) := all_take_succ hx
theorem refRight_sat (l : List Int) (hl : l.length = 65) : Sat Tryz.prog 99 [.d (hD l)] [] (bA (okH l)) [] := by
  refine sat_of_vc (T := tiOf Tryz.prog) (E := E0) Tryz.func99 rfl rfl hE0 hm0 rfl ?_
  conv => whnf
  repeat' (first | exact True.intro | ((first | refine Or.inl ?_ | refine And.intro (fun _ => ?_) tf | refine And.intro ft (fun _ => ?_) | refine And.intro (by kernel_rfl) ?_ | refine And.intro (by decide) ?_ | refine And.intro (fun _ => ?_) (fun h => absurd h (by decide)) | refine And.intro (fun h => absurd h (by decide)) (fun _ => ?_) | fail); conv => whnf) | (refine And.intro (fun _ => ?_) (fun _ => ?_) <;> conv => whnf) | fail)
  refine ⟨Nat, fun k => k ≤ 65 ∧ okH (l.take k) = true, fun k => ([(3, iA k), (1, .ptr 0 0)], [.row (hR l)]), fun k => 65 - k, ⟨0, ⟨by omega, rfl⟩, ?_⟩, ?_⟩
  · all_goals refine ⟨[], ?_⟩
    repeat (any_goals (first | exact True.intro | exact rfl | with_reducible_and_instances rfl | exact (by kernel_rfl) | refine And.intro ?_ ?_))
    all_goals conv => whnf
  rintro k ⟨hk, ho⟩
  conv => whnf
  by_cases hlt : k < 65
  · have hx : l[k]? = some l[k] := List.getElem?_eq_getElem (by omega)
    generalize l[k] = x at hx
    have ha : okH (l.take (k + 1)) = decide (0 ≤ x) := by unfold okH at *; rw [all_take hx, ho, Bool.true_and]
    repeat' (first | exact True.intro | ((first | refine ⟨k, rfl, hlt, ?_⟩ | refine ⟨_, rfl, _, _, drop_row hx, ?_⟩ | refine Or.inl ?_ | refine And.intro (fun _ => ?_) tf | refine And.intro ft (fun _ => ?_) | refine And.intro (by kernel_rfl) ?_ | refine And.intro (by decide) ?_ | refine And.intro (fun _ => ?_) (fun h => absurd h (by decide)) | refine And.intro (fun h => absurd h (by decide)) (fun _ => ?_) | fail); conv => whnf) | (refine And.intro (fun _ => ?_) (fun _ => ?_) <;> conv => whnf) | fail)
    all_goals try (exfalso; simp only [decide_eq_true_eq, decide_eq_false_iff_not, Bool.not_eq_true', Bool.not_eq_false', Bool.not_eq_true, Bool.not_eq_false, beq_iff_eq, bne_iff_ne, beq_eq_false_iff_ne, bne_eq_false_iff_eq, ne_eq, Decidable.not_not] at *; first | omega | contradiction | (simp_all; done) | (simp_all; omega))
    · have hr : okH l = false := by
        have h0 : x < 0 := (by (try simp only [decide_eq_true_eq, decide_eq_false_iff_not, Bool.not_eq_true', Bool.not_eq_false', Bool.not_eq_true, Bool.not_eq_false, beq_iff_eq, bne_iff_ne, beq_eq_false_iff_ne, bne_eq_false_iff_eq, ne_eq, Decidable.not_not, Int.natCast_eq_zero] at *); first | omega | assumption | (simp_all; done) | (simp_all; omega))
        rw [← List.take_append_drop (k + 1) l]
        unfold okH at *
        rw [List.all_append, ha, decide_eq_false (by omega)]; rfl
      rw [hr]
      all_goals refine ⟨[], ?_⟩
      repeat (any_goals (first | exact True.intro | exact rfl | with_reducible_and_instances rfl | exact (by kernel_rfl) | refine And.intro ?_ ?_))
      all_goals conv => whnf
    · have h0 : ¬ x < 0 := (by (try simp only [decide_eq_true_eq, decide_eq_false_iff_not, Bool.not_eq_true', Bool.not_eq_false', Bool.not_eq_true, Bool.not_eq_false, beq_iff_eq, bne_iff_ne, beq_eq_false_iff_ne, bne_eq_false_iff_eq, ne_eq, Decidable.not_not, Int.natCast_eq_zero] at *); first | omega | assumption | (simp_all; done) | (simp_all; omega))
      refine ⟨k + 1, ⟨hlt, by rw [ha]; exact decide_eq_true (by omega)⟩, show 65 - (k + 1) < 65 - k by omega, ?_⟩
      all_goals refine ⟨[], ?_⟩
      repeat (any_goals (first | exact True.intro | exact rfl | with_reducible_and_instances rfl | exact (by kernel_rfl) | refine And.intro ?_ ?_))
      all_goals conv => whnf
      exact wk1 (by omega)
  · have hke : k = 65 := by omega
    subst hke
    rw [List.take_of_length_le (by omega)] at ho
    rw [ho]
    repeat' (first | exact True.intro | ((first | refine Or.inl ?_ | refine And.intro (fun _ => ?_) tf | refine And.intro ft (fun _ => ?_) | refine And.intro (by kernel_rfl) ?_ | refine And.intro (by decide) ?_ | refine And.intro (fun _ => ?_) (fun h => absurd h (by decide)) | refine And.intro (fun h => absurd h (by decide)) (fun _ => ?_) | fail); conv => whnf) | (refine And.intro (fun _ => ?_) (fun _ => ?_) <;> conv => whnf) | fail)
    all_goals try (exfalso; simp only [decide_eq_true_eq, decide_eq_false_iff_not, Bool.not_eq_true', Bool.not_eq_false', Bool.not_eq_true, Bool.not_eq_false, beq_iff_eq, bne_iff_ne, beq_eq_false_iff_ne, bne_eq_false_iff_eq, ne_eq, Decidable.not_not] at *; first | omega | contradiction | (simp_all; done) | (simp_all; omega))
    all_goals refine ⟨[], ?_⟩
    repeat (any_goals (first | exact True.intro | exact rfl | with_reducible_and_instances rfl | exact (by kernel_rfl) | refine And.intro ?_ ?_))
    all_goals conv => whnf
theorem sets_row {l : List Int} {k : Nat} (x : Int) (hk : k < l.length) : sets (hR l) (0 + k * 1) [iD x] = hR (l.set k x) := by
  rw [Nat.zero_add, Nat.mul_one]
  show (hR l).set k (iD x) = _
  unfold hR
  rw [List.map_set]
theorem s68 : (tiOf Tryz.prog 38).size = 65 := by kernel_rfl
theorem whole_row {s : Nat} {h : List Int} (hs : s = 65) (hl : h.length = 65) : ((hR h).drop 0).take s = hR h := by
  rw [List.drop_zero, List.take_of_length_le (by rw [hR_len]; omega)]
theorem whole_len {s : Nat} {h : List Int} (hs : s = 65) (hl : h.length = 65) : (hR h).length = s := by rw [hR_len]; omega
theorem rows_whole {l h : List Int} (hl : l.length = 65) (hh : h.length = 65) : sets (hR l) 0 (hR h) = hR h := by
  rw [sets_eq _ _ _ (by rw [hR_len, hR_len]; omega), List.drop_of_length_le (by rw [hR_len, hR_len]; omega)]
  simp
theorem sets_fit {l h : List Int} (hl : l.length = 65) (hh : h.length = 65) : 0 + (hR h).length ≤ (hR l).length := by rw [hR_len, hR_len]; omega
theorem z65_len : z65.length = 65 := rfl
theorem histL_small (l : List Int) {b : Nat} {y : Int} (h : (histL l)[b]? = some y) : 0 ≤ y ∧ y ≤ l.length := histL_mem l y (List.mem_of_getElem? h)
theorem histL_succ {l : List Int} {k : Nat} {x : Int} (hx : l[k]? = some x) : histL (l.take (k + 1)) = bump (histL (l.take k)) (bkt x) := by
  rw [List.take_add_one, hx]; exact histL_snoc _ _
theorem refOf_sat (l : List Int) (hl : ∀ z ∈ l, in64 z) (hn : l.length ≤ 1000000) : Sat Tryz.prog 64 [.d (lD l)] [] (.d (hD (histL l))) [] := by
  have hm : (l.map lR).length = l.length := List.length_map _
  refine sat_of_vc (T := tiOf Tryz.prog) (E := E0) Tryz.func64 rfl rfl hE0 hm0 rfl ?_
  conv => whnf
  repeat' (first | exact True.intro | ((first | refine ⟨hR z65, by kernel_rfl, ?_⟩ | refine And.intro (by decide +kernel) ?_ | refine Or.inl ?_ | refine And.intro (fun _ => ?_) tf | refine And.intro ft (fun _ => ?_) | refine And.intro (by kernel_rfl) ?_ | refine And.intro (by decide) ?_ | refine And.intro (fun _ => ?_) (fun h => absurd h (by decide)) | refine And.intro (fun h => absurd h (by decide)) (fun _ => ?_) | fail); conv => whnf) | (refine And.intro (fun _ => ?_) (fun _ => ?_) <;> conv => whnf) | fail)
  refine ⟨Nat × List Int, fun y => y.1 ≤ l.length ∧ y.2 = histL (l.take y.1), fun y => ([(4, iA y.1), (3, .ptr 1 0), (2, .ptr 0 0), (0, .d (lD l))], [.row (hR z65), .row (hR y.2)]), fun y => l.length - y.1, ⟨(0, z65), ⟨Nat.zero_le _, rfl⟩, ?_⟩, ?_⟩
  · all_goals refine ⟨[], ?_⟩
    repeat (any_goals (first | exact True.intro | exact rfl | with_reducible_and_instances rfl | exact (by kernel_rfl) | refine And.intro ?_ ?_))
    all_goals conv => whnf
  rintro ⟨k, h⟩ ⟨(hk : k ≤ l.length), (hh : h = histL (l.take k))⟩
  have h65 : h.length = 65 := by rw [hh]; exact histL_len _
  conv => whnf
  by_cases hlt : k < l.length
  · have hx : l[k]? = some l[k] := List.getElem?_eq_getElem hlt
    have hz := hl _ (List.mem_of_getElem? hx)
    generalize l[k] = x at hx hz
    have hb := bkt_lt x hz.2
    have b1 := refBucket_sat x hz
    have hy : h[bkt x]? = some h[bkt x] := List.getElem?_eq_getElem (by omega)
    have hs := histL_succ hx
    rw [← hh] at hs
    have hsm : 0 ≤ h[bkt x] ∧ h[bkt x] ≤ (l.take k).length := histL_small (l.take k) (b := bkt x) (by rw [← hh]; exact hy)
    rw [List.length_take] at hsm
    have hbu : bump h (bkt x) = h.set (bkt x) (h[bkt x] + 1) := by unfold bump; rw [hy]; rfl
    generalize h[bkt x] = y at hy hsm hbu
    have hw : IntKind.i64.wrap (y + 1) = y + 1 := wi (by omega) (by omega)
    have hst : 0 + bkt x * 1 + 1 ≤ (hR h).length := by rw [hR_len]; omega
    have hse := sets_row (l := h) (k := bkt x) (y + 1) (by omega)
    rw [← hbu, ← hs] at hse
    rw [← hw] at hse
    repeat' (first | exact True.intro | ((first | refine ⟨k, _, rfl, map_get hx, ?_⟩ | refine ⟨bkt x, rfl, hb, ?_⟩ | refine ⟨_, rfl, _, _, drop_row hy, ?_⟩ | refine And.intro hst ?_ | refine ⟨_, hse, ?_⟩ | refine Or.inl ?_ | refine And.intro (fun _ => ?_) tf | refine And.intro ft (fun _ => ?_) | refine And.intro (by kernel_rfl) ?_ | refine And.intro (by decide) ?_ | refine And.intro (fun _ => ?_) (fun h => absurd h (by decide)) | refine And.intro (fun h => absurd h (by decide)) (fun _ => ?_) | refine ⟨_, _, b1.pu rfl rfl, ?_⟩ | fail); conv => whnf) | (refine And.intro (fun _ => ?_) (fun _ => ?_) <;> conv => whnf) | fail)
    all_goals try (exfalso; simp only [decide_eq_true_eq, decide_eq_false_iff_not, Bool.not_eq_true', Bool.not_eq_false', Bool.not_eq_true, Bool.not_eq_false, beq_iff_eq, bne_iff_ne, beq_eq_false_iff_ne, bne_eq_false_iff_eq, ne_eq, Decidable.not_not] at *; first | omega | contradiction | (simp_all; done) | (simp_all; omega))
    refine ⟨(k + 1, histL (l.take (k + 1))), ⟨hlt, rfl⟩, show l.length - (k + 1) < l.length - k by omega, ?_⟩
    all_goals refine ⟨[], ?_⟩
    repeat (any_goals (first | exact True.intro | exact rfl | with_reducible_and_instances rfl | exact (by kernel_rfl) | refine And.intro ?_ ?_))
    all_goals conv => whnf
    exact wk1 (show k ≤ _ by omega)
  · have hke : k = l.length := by omega
    subst hke
    rw [List.take_length] at hh
    subst hh
    repeat' (first | exact True.intro | ((first | refine And.intro (whole_len s68 h65) ?_ | refine ⟨_, whole_row s68 h65, whole_len s68 h65, ?_⟩ | refine And.intro (sets_fit z65_len h65) ?_ | refine ⟨_, rows_whole z65_len h65, ?_⟩ | refine ⟨_, rfl, ?_⟩ | refine Or.inl ?_ | refine And.intro (fun _ => ?_) tf | refine And.intro ft (fun _ => ?_) | refine And.intro (by kernel_rfl) ?_ | refine And.intro (by decide) ?_ | refine And.intro (fun _ => ?_) (fun h => absurd h (by decide)) | refine And.intro (fun h => absurd h (by decide)) (fun _ => ?_) | fail); conv => whnf) | (refine And.intro (fun _ => ?_) (fun _ => ?_) <;> conv => whnf) | fail)
    all_goals try (exfalso; simp only [decide_eq_true_eq, decide_eq_false_iff_not, Bool.not_eq_true', Bool.not_eq_false', Bool.not_eq_true, Bool.not_eq_false, beq_iff_eq, bne_iff_ne, beq_eq_false_iff_ne, bne_eq_false_iff_eq, ne_eq, Decidable.not_not] at *; first | omega | contradiction | (simp_all; done) | (simp_all; omega))
    all_goals refine ⟨[], ?_⟩
    repeat (any_goals (first | exact True.intro | exact rfl | with_reducible_and_instances rfl | exact (by kernel_rfl) | refine And.intro ?_ ?_))
    all_goals conv => whnf
def col (ls : List (List Int)) (k : Nat) : List Int := ls.map fun l => l[k]?.getD 0
theorem col_sum (ls : List (List Int)) (k : Nat) : (col ls k).sum = sumAt ls k := rfl
theorem col_succ {ls : List (List Int)} {i k : Nat} {l : List Int} (h : ls[i]? = some l) : col (ls.take (i + 1)) k = col (ls.take i) k ++ [l[k]?.getD 0] := by
  unfold col; rw [List.take_add_one, h]; simp
def partL (ls : List (List Int)) (k : Nat) : List Int := (List.range 65).map fun j => if j < k then sumAt ls j else 0
theorem partL_len (ls : List (List Int)) (k : Nat) : (partL ls k).length = 65 := by simp [partL]
theorem partL_set (ls : List (List Int)) {k : Nat} (hk : k < 65) : (partL ls k).set k (sumAt ls k) = partL ls (k + 1) := by
  apply List.ext_getElem?
  intro j
  unfold partL
  rw [List.getElem?_set]
  by_cases hj : j < 65
  · simp only [List.length_map, List.length_range, List.getElem?_map, List.getElem?_range hj, Option.map_some]
    by_cases e : k = j
    · subst e; simp [hk]
    · simp only [e, if_false]
      congr 1
      by_cases h : j < k
      · rw [if_pos h, if_pos (by omega)]
      · rw [if_neg h, if_neg (by omega)]
  · have : k ≠ j := by omega
    rw [if_neg this, List.getElem?_eq_none (by simp; omega), List.getElem?_eq_none (by simp; omega)]
theorem partL_zero (ls : List (List Int)) : partL ls 0 = z65 := by
  unfold partL z65
  apply List.ext_getElem?
  intro j
  rw [List.getElem?_map, List.getElem?_replicate]
  by_cases hj : j < 65
  · rw [List.getElem?_range hj]; simp [hj]
  · rw [List.getElem?_eq_none (by simp; omega)]; simp [hj]
theorem partL_all (ls : List (List Int)) : partL ls 65 = mergeL ls := by
  unfold partL mergeL
  apply List.map_congr_left
  intro j hj
  rw [if_pos (List.mem_range.1 hj)]
theorem hR_take {s : Nat} {h : List Int} (hs : s = 65) (hl : h.length = 65) : (hR h).take s = hR h := List.take_of_length_le (by rw [hR_len]; omega)
theorem merge_form {ls : List (List Int)} (h : ls.all okH = false) : mergeE ls = 10 ∧ mergeR ls = z65 := by
  have : mergeE ls = 10 := by unfold mergeE; rw [if_pos h]
  exact ⟨this, by unfold mergeR; rw [this]; rfl⟩
theorem merge_over {ls : List (List Int)} (h : ls.all okH = true) {k : Nat} (hk : k < 65) (hs : 9223372036854775807 < sumAt ls k) : mergeE ls = 12 ∧ mergeR ls = z65 := by
  have : mergeE ls = 12 := by
    unfold mergeE
    rw [if_neg (by simp [h]), if_pos (List.any_eq_true.2 ⟨k, List.mem_range.2 hk, decide_eq_true hs⟩)]
  exact ⟨this, by unfold mergeR; rw [this]; rfl⟩
theorem merge_fine {ls : List (List Int)} (h : ls.all okH = true) (hs : ∀ k, k < 65 → sumAt ls k ≤ 9223372036854775807) : mergeE ls = 0 ∧ mergeR ls = mergeL ls := by
  have : mergeE ls = 0 := by
    unfold mergeE
    rw [if_neg (by simp [h]), if_neg]
    intro q
    obtain ⟨k, h1, h2⟩ := List.any_eq_true.1 q
    have := hs k (List.mem_range.1 h1)
    have := of_decide_eq_true h2
    omega
  exact ⟨this, by unfold mergeR; rw [this]; rfl⟩
set_option maxHeartbeats 400000 in
theorem refMerge_sat (ls : List (List Int)) (hl : ∀ l ∈ ls, l.length = 65) (hx : ∀ l ∈ ls, ∀ z ∈ l, in64 z) (hn : ls.length ≤ 1000) : Sat Tryz.prog 78 [.d (.sl 65 (ls.map hR))] [] (.tup [.d (hD (mergeR ls)), iA (mergeE ls)]) [] := by
  have hm : (ls.map hR).length = ls.length := List.length_map _
  refine sat_of_vc (T := tiOf Tryz.prog) (E := E0) Tryz.func78 rfl rfl hE0 hm0 rfl ?_
  conv => whnf
  repeat' (first | exact True.intro | ((first | refine ⟨hR z65, by kernel_rfl, ?_⟩ | refine And.intro (by decide +kernel) ?_ | refine And.intro (fun _ => ?_) tf | refine And.intro ft (fun _ => ?_) | refine And.intro (by kernel_rfl) ?_ | refine And.intro (by decide) ?_ | refine And.intro (fun _ => ?_) (fun h => absurd h (by decide)) | refine And.intro (fun h => absurd h (by decide)) (fun _ => ?_) | fail); conv => whnf) | (refine And.intro (fun _ => ?_) (fun _ => ?_) <;> conv => whnf) | fail)
  all_goals try (refine Or.inl ?_; conv => whnf)
  repeat' (first | exact True.intro | ((first | refine ⟨hR z65, by kernel_rfl, ?_⟩ | refine And.intro (by decide +kernel) ?_ | refine And.intro (fun _ => ?_) tf | refine And.intro ft (fun _ => ?_) | refine And.intro (by kernel_rfl) ?_ | refine And.intro (by decide) ?_ | refine And.intro (fun _ => ?_) (fun h => absurd h (by decide)) | refine And.intro (fun h => absurd h (by decide)) (fun _ => ?_) | fail); conv => whnf) | (refine And.intro (fun _ => ?_) (fun _ => ?_) <;> conv => whnf) | fail)
  refine ⟨Nat, fun i => i ≤ ls.length ∧ (ls.take i).all okH = true, fun i => ([(5, iA i), (4, .ptr 1 0), (3, iA 0), (2, .ptr 0 0), (0, .d (.sl 65 (ls.map hR)))], [.row (hR z65), .row (hR z65)]), fun i => ls.length - i, ⟨0, ⟨Nat.zero_le _, rfl⟩, ?_⟩, ?_⟩
  · all_goals refine ⟨[], ?_⟩
    repeat (any_goals (first | exact True.intro | exact rfl | with_reducible_and_instances rfl | exact (by kernel_rfl) | refine And.intro ?_ ?_))
    all_goals conv => whnf
  rintro i ⟨hi, hok⟩
  conv => whnf
  by_cases hlt : i < ls.length
  · have hx1 : ls[i]? = some ls[i] := List.getElem?_eq_getElem hlt
    have hl1 := hl _ (List.mem_of_getElem? hx1)
    generalize ls[i] = l at hx1 hl1
    have r1 := refRight_sat l hl1
    have ha : (ls.take (i + 1)).all okH = okH l := by rw [List.take_add_one, hx1, List.all_append, hok]; simp
    repeat' (first | exact True.intro | ((first | refine And.intro (whole_len s68 hl1) ?_ | refine ⟨i, _, rfl, map_get hx1, ?_⟩ | refine ⟨_, hR_take s68 hl1, whole_len s68 hl1, ?_⟩ | refine ⟨hR z65, by kernel_rfl, ?_⟩ | refine And.intro (sets_fit z65_len z65_len) ?_ | refine ⟨_, rows_whole z65_len z65_len, ?_⟩ | refine Or.inl ?_ | refine And.intro (fun _ => ?_) tf | refine And.intro ft (fun _ => ?_) | refine And.intro (by kernel_rfl) ?_ | refine And.intro (by decide) ?_ | refine And.intro (fun _ => ?_) (fun h => absurd h (by decide)) | refine And.intro (fun h => absurd h (by decide)) (fun _ => ?_) | refine ⟨_, _, r1.pu rfl rfl, ?_⟩ | fail); conv => whnf) | (refine And.intro (fun _ => ?_) (fun _ => ?_) <;> conv => whnf) | fail)
    all_goals try (exfalso; simp only [decide_eq_true_eq, decide_eq_false_iff_not, Bool.not_eq_true', Bool.not_eq_false', Bool.not_eq_true, Bool.not_eq_false, beq_iff_eq, bne_iff_ne, beq_eq_false_iff_ne, bne_eq_false_iff_eq, ne_eq, Decidable.not_not] at *; first | omega | contradiction | (simp_all; done) | (simp_all; omega))
    · have ho : okH l = false := by cases h : okH l <;> simp_all
      obtain ⟨e1, e2⟩ := merge_form (ls := ls) (by
        rw [← List.take_append_drop (i + 1) ls, List.all_append, ha, ho]; rfl)
      rw [e1, e2]
      all_goals refine ⟨[], ?_⟩
      repeat (any_goals (first | exact True.intro | exact rfl | with_reducible_and_instances rfl | exact (by kernel_rfl) | refine And.intro ?_ ?_))
      all_goals conv => whnf
    · have ho : okH l = true := by cases h : okH l <;> simp_all
      refine ⟨i + 1, ⟨hlt, by rw [ha]; exact ho⟩, show ls.length - (i + 1) < ls.length - i by omega, ?_⟩
      all_goals refine ⟨[], ?_⟩
      repeat (any_goals (first | exact True.intro | exact rfl | with_reducible_and_instances rfl | exact (by kernel_rfl) | refine And.intro ?_ ?_))
      all_goals conv => whnf
      exact wk1 (by omega)
  · have hie : i = ls.length := by omega
    subst hie
    rw [List.take_length] at hok
    repeat' (first | exact True.intro | ((first | refine And.intro (fun _ => ?_) tf | refine And.intro ft (fun _ => ?_) | refine And.intro (by kernel_rfl) ?_ | refine And.intro (by decide) ?_ | refine And.intro (fun _ => ?_) (fun h => absurd h (by decide)) | refine And.intro (fun h => absurd h (by decide)) (fun _ => ?_) | fail); conv => whnf) | (refine And.intro (fun _ => ?_) (fun _ => ?_) <;> conv => whnf) | fail)
    all_goals try (refine Or.inl ?_; conv => whnf)
    repeat' (first | exact True.intro | ((first | refine And.intro (fun _ => ?_) tf | refine And.intro ft (fun _ => ?_) | refine And.intro (by kernel_rfl) ?_ | refine And.intro (by decide) ?_ | refine And.intro (fun _ => ?_) (fun h => absurd h (by decide)) | refine And.intro (fun h => absurd h (by decide)) (fun _ => ?_) | fail); conv => whnf) | (refine And.intro (fun _ => ?_) (fun _ => ?_) <;> conv => whnf) | fail)
    all_goals try (exfalso; simp only [decide_eq_true_eq, decide_eq_false_iff_not, Bool.not_eq_true', Bool.not_eq_false', Bool.not_eq_true, Bool.not_eq_false, beq_iff_eq, bne_iff_ne, beq_eq_false_iff_ne, bne_eq_false_iff_eq, ne_eq, Decidable.not_not] at *; first | omega | contradiction | (simp_all; done) | (simp_all; omega))
    all_goals try (refine Or.inl ?_; conv => whnf)
    repeat' (first | exact True.intro | ((first | refine And.intro (fun _ => ?_) tf | refine And.intro ft (fun _ => ?_) | refine And.intro (by kernel_rfl) ?_ | refine And.intro (by decide) ?_ | refine And.intro (fun _ => ?_) (fun h => absurd h (by decide)) | refine And.intro (fun h => absurd h (by decide)) (fun _ => ?_) | fail); conv => whnf) | (refine And.intro (fun _ => ?_) (fun _ => ?_) <;> conv => whnf) | fail)
    all_goals try (refine Or.inl ?_; conv => whnf)
    repeat' (first | exact True.intro | ((first | refine And.intro (fun _ => ?_) tf | refine And.intro ft (fun _ => ?_) | refine And.intro (by kernel_rfl) ?_ | refine And.intro (by decide) ?_ | refine And.intro (fun _ => ?_) (fun h => absurd h (by decide)) | refine And.intro (fun h => absurd h (by decide)) (fun _ => ?_) | fail); conv => whnf) | (refine And.intro (fun _ => ?_) (fun _ => ?_) <;> conv => whnf) | fail)
    all_goals try (refine Or.inl ?_; conv => whnf)
    repeat' (first | exact True.intro | ((first | refine And.intro (fun _ => ?_) tf | refine And.intro ft (fun _ => ?_) | refine And.intro (by kernel_rfl) ?_ | refine And.intro (by decide) ?_ | refine And.intro (fun _ => ?_) (fun h => absurd h (by decide)) | refine And.intro (fun h => absurd h (by decide)) (fun _ => ?_) | fail); conv => whnf) | (refine And.intro (fun _ => ?_) (fun _ => ?_) <;> conv => whnf) | fail)
    refine ⟨Nat × List Int, fun y => (y.1 ≤ 65 ∧ ∀ j, j < y.1 → sumAt ls j ≤ 9223372036854775807) ∧ y.2 = partL ls y.1, fun y => ([(6, iA y.1), (4, .ptr 1 0), (3, iA 0), (2, .ptr 0 0), (0, .d (.sl 65 (ls.map hR)))], [.row (hR z65), .row (hR y.2)]), fun y => 65 - y.1, ⟨(0, z65), ⟨⟨by omega, fun j (hj : j < 0) => by omega⟩, (partL_zero ls).symm⟩, ?_⟩, ?_⟩
    · all_goals refine ⟨[], ?_⟩
      repeat (any_goals (first | exact True.intro | exact rfl | with_reducible_and_instances rfl | exact (by kernel_rfl) | refine And.intro ?_ ?_))
      all_goals conv => whnf
    rintro ⟨k, p⟩ ⟨⟨(hk : k ≤ 65), (hsm : ∀ j, j < k → sumAt ls j ≤ 9223372036854775807)⟩, (hp : p = partL ls k)⟩
    have p65 : p.length = 65 := by rw [hp]; exact partL_len ls k
    conv => whnf
    by_cases hk6 : k < 65
    · have hcol : ∀ z ∈ col ls k, in64 z := by
        intro z hz
        obtain ⟨l, h1, rfl⟩ := List.mem_map.1 hz
        have h2 := hl l h1
        rw [List.getElem?_eq_getElem (by omega)]
        exact hx l h1 _ (List.getElem_mem _)
      have hcl : (col ls k).length = ls.length := List.length_map _
      have hnn := sumAt_nonneg ls k hok
      have su := sum_num (col ls k) hcol (by omega)
      rw [col_sum] at su
      repeat' (first | exact True.intro | ((first | refine And.intro (fun _ => ?_) (fun h => absurd h (by simpa using hk6)) | refine And.intro (fun _ => ?_) tf | refine And.intro ft (fun _ => ?_) | refine And.intro (by kernel_rfl) ?_ | refine And.intro (by decide) ?_ | refine And.intro (fun _ => ?_) (fun h => absurd h (by decide)) | refine And.intro (fun h => absurd h (by decide)) (fun _ => ?_) | fail); conv => whnf) | (refine And.intro (fun _ => ?_) (fun _ => ?_) <;> conv => whnf) | fail)
      all_goals try (refine Or.inl ?_; conv => whnf)
      repeat' (first | exact True.intro | ((first | refine And.intro (fun _ => ?_) (fun h => absurd h (by simpa using hk6)) | refine And.intro (fun _ => ?_) tf | refine And.intro ft (fun _ => ?_) | refine And.intro (by kernel_rfl) ?_ | refine And.intro (by decide) ?_ | refine And.intro (fun _ => ?_) (fun h => absurd h (by decide)) | refine And.intro (fun h => absurd h (by decide)) (fun _ => ?_) | fail); conv => whnf) | (refine And.intro (fun _ => ?_) (fun _ => ?_) <;> conv => whnf) | fail)
      all_goals try (refine Or.inl ?_; conv => whnf)
      repeat' (first | exact True.intro | ((first | refine And.intro (fun _ => ?_) tf | refine And.intro ft (fun _ => ?_) | refine And.intro (by kernel_rfl) ?_ | refine And.intro (by decide) ?_ | refine And.intro (fun _ => ?_) (fun h => absurd h (by decide)) | refine And.intro (fun h => absurd h (by decide)) (fun _ => ?_) | fail); conv => whnf) | (refine And.intro (fun _ => ?_) (fun _ => ?_) <;> conv => whnf) | fail)
      all_goals try (refine Or.inl ?_; conv => whnf)
      repeat' (first | exact True.intro | ((first | refine And.intro (fun _ => ?_) tf | refine And.intro ft (fun _ => ?_) | refine And.intro (by kernel_rfl) ?_ | refine And.intro (by decide) ?_ | refine And.intro (fun _ => ?_) (fun h => absurd h (by decide)) | refine And.intro (fun h => absurd h (by decide)) (fun _ => ?_) | fail); conv => whnf) | (refine And.intro (fun _ => ?_) (fun _ => ?_) <;> conv => whnf) | fail)
      all_goals try (exfalso; simp only [decide_eq_true_eq, decide_eq_false_iff_not, Bool.not_eq_true', Bool.not_eq_false', Bool.not_eq_true, Bool.not_eq_false, beq_iff_eq, bne_iff_ne, beq_eq_false_iff_ne, bne_eq_false_iff_eq, ne_eq, Decidable.not_not] at *; first | omega | contradiction | (simp_all; done) | (simp_all; omega))
      refine ⟨Nat, fun i => i ≤ ls.length, fun i => ([(8, iA i), (7, .own 2), (6, iA k), (4, .ptr 1 0), (3, iA 0), (2, .ptr 0 0), (0, .d (.sl 65 (ls.map hR)))], [.row (hR z65), .row (hR p), .sl 1 ((col (ls.take i) k).map lR)]), fun i => ls.length - i, ⟨0, Nat.zero_le _, ?_⟩, ?_⟩
      · all_goals refine ⟨[], ?_⟩
        repeat (any_goals (first | exact True.intro | exact rfl | with_reducible_and_instances rfl | exact (by kernel_rfl) | refine And.intro ?_ ?_))
        all_goals conv => whnf
      intro i hi
      have hi : i ≤ ls.length := hi
      have hci : ((col (ls.take i) k).map lR).length = i := by unfold col; simp; omega
      conv => whnf
      by_cases hlt : i < ls.length
      · have hx1 : ls[i]? = some ls[i] := List.getElem?_eq_getElem hlt
        have hl1 := hl _ (List.mem_of_getElem? hx1)
        generalize ls[i] = l at hx1 hl1
        have hx2 : l[k]? = some l[k] := List.getElem?_eq_getElem (by omega)
        have hc := col_succ (k := k) hx1
        rw [hx2, Option.getD_some] at hc
        generalize l[k] = x at hx2 hc
        have hdr : (hR l).drop (k * 1) = iD x :: (hR l).drop (k + 1) := by rw [← drop_row hx2, Nat.zero_add]
        repeat' (first | exact True.intro | ((first | refine ⟨i, _, rfl, map_get hx1, ?_⟩ | refine ⟨k, _, rfl, hk6, hdr, ?_⟩ | refine Or.inl ?_ | refine And.intro (fun _ => ?_) tf | refine And.intro ft (fun _ => ?_) | refine And.intro (by kernel_rfl) ?_ | refine And.intro (by decide) ?_ | refine And.intro (fun _ => ?_) (fun h => absurd h (by decide)) | refine And.intro (fun h => absurd h (by decide)) (fun _ => ?_) | refine ⟨_, _, ap 1 8 (by kernel_rfl) rfl rfl (by simp [hci]; omega), ?_⟩ | fail); conv => whnf) | (refine And.intro (fun _ => ?_) (fun _ => ?_) <;> conv => whnf) | fail)
        all_goals try (exfalso; simp only [decide_eq_true_eq, decide_eq_false_iff_not, Bool.not_eq_true', Bool.not_eq_false', Bool.not_eq_true, Bool.not_eq_false, beq_iff_eq, bne_iff_ne, beq_eq_false_iff_ne, bne_eq_false_iff_eq, ne_eq, Decidable.not_not] at *; first | omega | contradiction | (simp_all; done) | (simp_all; omega))
        refine ⟨i + 1, hlt, show ls.length - (i + 1) < ls.length - i by omega, ?_⟩
        all_goals refine ⟨[(2, 4)], ?_⟩
        repeat (any_goals (first | exact True.intro | exact rfl | with_reducible_and_instances rfl | exact (by kernel_rfl) | refine And.intro ?_ ?_))
        all_goals conv => whnf
        · exact wk1 (by omega)
        · rw [hc, List.map_append]; rfl
      · have hie : i = ls.length := by omega
        subst hie
        rw [show col ls k = col (ls.take ls.length) k by rw [List.take_length]] at su
        repeat' (first | exact True.intro | ((first | refine And.intro (fun _ => ?_) tf | refine And.intro ft (fun _ => ?_) | refine And.intro (by kernel_rfl) ?_ | refine And.intro (by decide) ?_ | refine And.intro (fun _ => ?_) (fun h => absurd h (by decide)) | refine And.intro (fun h => absurd h (by decide)) (fun _ => ?_) | refine ⟨_, _, frz_a su rfl rfl, ?_⟩ | fail); conv => whnf) | (refine And.intro (fun _ => ?_) (fun _ => ?_) <;> conv => whnf) | fail)
        all_goals try (exfalso; simp only [decide_eq_true_eq, decide_eq_false_iff_not, Bool.not_eq_true', Bool.not_eq_false', Bool.not_eq_true, Bool.not_eq_false, beq_iff_eq, bne_iff_ne, beq_eq_false_iff_ne, bne_eq_false_iff_eq, ne_eq, Decidable.not_not] at *; first | omega | contradiction | (simp_all; done) | (simp_all; omega))
        all_goals try (refine Or.inl ?_; conv => whnf)
        repeat' (first | exact True.intro | ((first | refine And.intro (fun _ => ?_) tf | refine And.intro ft (fun _ => ?_) | refine And.intro (by kernel_rfl) ?_ | refine And.intro (by decide) ?_ | refine And.intro (fun _ => ?_) (fun h => absurd h (by decide)) | refine And.intro (fun h => absurd h (by decide)) (fun _ => ?_) | refine ⟨_, _, frz_a su rfl rfl, ?_⟩ | fail); conv => whnf) | (refine And.intro (fun _ => ?_) (fun _ => ?_) <;> conv => whnf) | fail)
        all_goals try (exfalso; simp only [decide_eq_true_eq, decide_eq_false_iff_not, Bool.not_eq_true', Bool.not_eq_false', Bool.not_eq_true, Bool.not_eq_false, beq_iff_eq, bne_iff_ne, beq_eq_false_iff_ne, bne_eq_false_iff_eq, ne_eq, Decidable.not_not] at *; first | omega | contradiction | (simp_all; done) | (simp_all; omega))
        all_goals try (refine Or.inl ?_; conv => whnf)
        repeat' (first | exact True.intro | ((first | refine And.intro (fun _ => ?_) tf | refine And.intro ft (fun _ => ?_) | refine And.intro (by kernel_rfl) ?_ | refine And.intro (by decide) ?_ | refine And.intro (fun _ => ?_) (fun h => absurd h (by decide)) | refine And.intro (fun h => absurd h (by decide)) (fun _ => ?_) | refine ⟨_, _, frz_a su rfl rfl, ?_⟩ | refine ⟨_, _, neF [1] (by kernel_rfl) rfl, ?_⟩ | fail); conv => whnf) | (refine And.intro (fun _ => ?_) (fun _ => ?_) <;> conv => whnf) | fail)
        all_goals try (exfalso; simp only [decide_eq_true_eq, decide_eq_false_iff_not, Bool.not_eq_true', Bool.not_eq_false', Bool.not_eq_true, Bool.not_eq_false, beq_iff_eq, bne_iff_ne, beq_eq_false_iff_ne, bne_eq_false_iff_eq, ne_eq, Decidable.not_not] at *; first | omega | contradiction | (simp_all; done) | (simp_all; omega))
        · rename_i hne
          have h9 : ¬ sumAt ls k ≤ 9223372036854775807 := fun h => by rw [toldZ_in ⟨by omega, h⟩] at hne; simp at hne
          obtain ⟨e1, e2⟩ := merge_over hok hk6 (by omega)
          have et : toldZ (sumAt ls k) = (0, 12) := by unfold toldZ; rw [if_neg (by omega)]
          repeat' (first | exact True.intro | ((first | refine And.intro (whole_len s68 z65_len) ?_ | refine ⟨hR z65, by kernel_rfl, ?_⟩ | refine And.intro (sets_fit z65_len z65_len) ?_ | refine ⟨_, rows_whole z65_len z65_len, ?_⟩ | refine Or.inl ?_ | refine And.intro (fun _ => ?_) tf | refine And.intro ft (fun _ => ?_) | refine And.intro (by kernel_rfl) ?_ | refine And.intro (by decide) ?_ | refine And.intro (fun _ => ?_) (fun h => absurd h (by decide)) | refine And.intro (fun h => absurd h (by decide)) (fun _ => ?_) | fail); conv => whnf) | (refine And.intro (fun _ => ?_) (fun _ => ?_) <;> conv => whnf) | fail)
          rw [e1, e2]
          all_goals refine ⟨[], ?_⟩
          repeat (any_goals (first | exact True.intro | exact rfl | with_reducible_and_instances rfl | exact (by kernel_rfl) | refine And.intro ?_ ?_))
          all_goals conv => whnf
          rw [et]; rfl
        · rename_i hne
          have h9 : sumAt ls k ≤ 9223372036854775807 := by
            refine Classical.byContradiction fun h => ?_
            unfold toldZ at hne
            rw [if_neg (by omega)] at hne
            exact absurd hne (by decide)
          have et := toldZ_in (z := sumAt ls k) ⟨by omega, h9⟩
          have hst : 0 + k * 1 + 1 ≤ (hR p).length := by rw [hR_len]; omega
          have hse := sets_row (l := p) (k := k) (toldZ (sumAt ls k)).1 (by omega)
          rw [show p.set k (toldZ (sumAt ls k)).1 = partL ls (k + 1) by rw [et, hp]; exact partL_set ls hk6] at hse
          repeat' (first | exact True.intro | ((first | refine ⟨k, rfl, hk6, ?_⟩ | refine And.intro hst ?_ | refine ⟨_, hse, ?_⟩ | refine Or.inl ?_ | refine And.intro (fun _ => ?_) tf | refine And.intro ft (fun _ => ?_) | refine And.intro (by kernel_rfl) ?_ | refine And.intro (by decide) ?_ | refine And.intro (fun _ => ?_) (fun h => absurd h (by decide)) | refine And.intro (fun h => absurd h (by decide)) (fun _ => ?_) | fail); conv => whnf) | (refine And.intro (fun _ => ?_) (fun _ => ?_) <;> conv => whnf) | fail)
          all_goals try (exfalso; simp only [decide_eq_true_eq, decide_eq_false_iff_not, Bool.not_eq_true', Bool.not_eq_false', Bool.not_eq_true, Bool.not_eq_false, beq_iff_eq, bne_iff_ne, beq_eq_false_iff_ne, bne_eq_false_iff_eq, ne_eq, Decidable.not_not] at *; first | omega | contradiction | (simp_all; done) | (simp_all; omega))
          refine ⟨(k + 1, partL ls (k + 1)), ⟨⟨hk6, fun j (hj : j < k + 1) => ?_⟩, rfl⟩, show 65 - (k + 1) < 65 - k by omega, ?_⟩
          · rcases Nat.lt_or_ge j k with q | q
            · exact hsm j q
            · rw [show j = k by omega]; exact h9
          all_goals refine ⟨[], ?_⟩
          repeat (any_goals (first | exact True.intro | exact rfl | with_reducible_and_instances rfl | exact (by kernel_rfl) | refine And.intro ?_ ?_))
          all_goals conv => whnf
          exact wk1 (by omega)
    · have hke : k = 65 := by omega
      obtain ⟨e1, e2⟩ := merge_fine hok (fun j hj => hsm j (by omega))
      rw [← partL_all, ← hke, ← hp] at e2
      rw [e1, e2]
      repeat' (first | exact True.intro | ((first | refine And.intro (fun h => absurd h (by simpa using hk6)) (fun _ => ?_) | refine And.intro (whole_len s68 p65) ?_ | refine ⟨_, whole_row s68 p65, whole_len s68 p65, ?_⟩ | refine And.intro (sets_fit z65_len p65) ?_ | refine ⟨_, rows_whole z65_len p65, ?_⟩ | refine ⟨_, rfl, ?_⟩ | refine Or.inl ?_ | refine And.intro (fun _ => ?_) tf | refine And.intro ft (fun _ => ?_) | refine And.intro (by kernel_rfl) ?_ | refine And.intro (by decide) ?_ | refine And.intro (fun _ => ?_) (fun h => absurd h (by decide)) | refine And.intro (fun h => absurd h (by decide)) (fun _ => ?_) | fail); conv => whnf) | (refine And.intro (fun _ => ?_) (fun _ => ?_) <;> conv => whnf) | fail)
      all_goals try (exfalso; simp only [decide_eq_true_eq, decide_eq_false_iff_not, Bool.not_eq_true', Bool.not_eq_false', Bool.not_eq_true, Bool.not_eq_false, beq_iff_eq, bne_iff_ne, beq_eq_false_iff_ne, bne_eq_false_iff_eq, ne_eq, Decidable.not_not] at *; first | omega | contradiction | (simp_all; done) | (simp_all; omega))
      all_goals refine ⟨[], ?_⟩
      repeat (any_goals (first | exact True.intro | exact rfl | with_reducible_and_instances rfl | exact (by kernel_rfl) | refine And.intro ?_ ?_))
      all_goals conv => whnf
end Go.Proofs.YtbjmdnemeidpjaaGreat
/- Cells, in plain Lean: fold, right, note, merge; sums of 128 bits. -/
namespace Go.Proofs.YtbjmdnemeidpjaaGreat
set_option linter.unusedSimpArgs false
set_option linter.unusedVariables false
open Go.RowKit
set_option linter.unusedSectionVars false
/-- A cell: how many values, their sum, the least, the greatest, the tallies, the buckets. -/
structure Cel where
  n : Int
  s : Int
  mn : Int
  mx : Int
  ce : Int
  po : Int
  h : List Int
deriving DecidableEq
theorem Cel.ext' {a b : Cel} (h1 : a.n = b.n) (h2 : a.s = b.s) (h3 : a.mn = b.mn) (h4 : a.mx = b.mx) (h5 : a.ce = b.ce) (h6 : a.po = b.po) (h7 : a.h = b.h) : a = b := by
  cases a; cases b; simp_all
def zC : Cel := ⟨0, 0, 0, 0, 0, 0, z65⟩
def in128 (z : Int) : Prop := in64 (hiZ z)
instance (z : Int) : Decidable (in128 z) := by unfold in128 in64; infer_instance
structure CelOK (c : Cel) : Prop where
  n : in64 c.n
  s : in128 c.s
  mn : in64 c.mn
  mx : in64 c.mx
  ce : in64 c.ce
  po : in64 c.po
  hl : c.h.length = 65
  hx : ∀ z ∈ c.h, in64 z
/-- The least and the greatest of what has come. -/
def mmin (l : List Int) : Int := match l with | [] => 0 | x :: r => r.foldl min x
def mmax (l : List Int) : Int := match l with | [] => 0 | x :: r => r.foldl max x
def foldC (l : List Int) : Cel := ⟨l.length, l.sum, mmin l, mmax l, 0, 0, histL l⟩
def hAt (h : List Int) (b : Nat) : Int := h[b]?.getD 0
def inB (c : Cel) : Bool := (List.range 65).all fun b => decide (hAt c.h b = 0 ∨ (bkt c.mn ≤ b ∧ b ≤ bkt c.mx))
def rightC (c : Cel) : Bool := decide (0 ≤ c.n ∧ 0 ≤ c.ce ∧ 0 ≤ c.po ∧ c.mn ≤ c.mx) && okH c.h && decide (c.h.sum = c.n) &&
  (if c.n = 0 then decide (c.s = 0 ∧ c.mn = 0 ∧ c.mx = 0) else decide (hAt c.h (bkt c.mn) ≠ 0 ∧ hAt c.h (bkt c.mx) ≠ 0) && inB c)
def big : Int := 9223372036854775807
def noteC (c : Cel) (b : Bool) : Cel × Int := if rightC c = false then (zC, 10) else
  if (if b then c.ce else c.po) = big then (zC, 12) else (⟨c.n, c.s, c.mn, c.mx, if b then c.ce + 1 else c.ce, if b then c.po else c.po + 1, c.h⟩, 0)
def addC (c : Cel) (v : Int) : Cel × Int := if rightC c = false then (zC, 10) else
  if c.n = big then (zC, 12) else if ¬ in128 (c.s + v) then (zC, 12) else
  (⟨c.n + 1, c.s + v, if c.n = 0 then v else min c.mn v, if c.n = 0 then v else max c.mx v, c.ce, c.po, bump c.h (bkt v)⟩, 0)
def sumN (l : List Cel) : Int := (l.map (·.n)).sum
def sumS (l : List Cel) : Int := (l.map (·.s)).sum
def sumCe (l : List Cel) : Int := (l.map (·.ce)).sum
def sumPo (l : List Cel) : Int := (l.map (·.po)).sum
def full (l : List Cel) : List Cel := l.filter fun c => decide (c.n ≠ 0)
def fitsC (l : List Cel) : Bool := decide (sumN l ≤ big ∧ sumCe l ≤ big ∧ sumPo l ≤ big ∧ in128 (sumS l))
def joinC (l : List Cel) : Cel := ⟨sumN l, sumS l, mmin ((full l).map (·.mn)), mmax ((full l).map (·.mx)), sumCe l, sumPo l, mergeL (l.map (·.h))⟩
def mergeC (l : List Cel) : Cel × Int := if l.all rightC = false then (zC, 10) else if fitsC l = false then (zC, 12) else (joinC l, 0)
/-! ### the least and the greatest -/
theorem foldl_min : ∀ (r : List Int) (x y : Int), min y (r.foldl min x) = r.foldl min (min y x)
  | [], _, _ => rfl
  | z :: r, x, y => by rw [List.foldl_cons, List.foldl_cons, foldl_min r, Int.min_assoc]
theorem foldl_max : ∀ (r : List Int) (x y : Int), max y (r.foldl max x) = r.foldl max (max y x)
  | [], _, _ => rfl
  | z :: r, x, y => by rw [List.foldl_cons, List.foldl_cons, foldl_max r, Int.max_assoc]
theorem mmin_snoc (l : List Int) (v : Int) : mmin (l ++ [v]) = if l = [] then v else min (mmin l) v := by
  cases l with
  | nil => rfl
  | cons x r => simp [mmin, List.foldl_append]
theorem mmax_snoc (l : List Int) (v : Int) : mmax (l ++ [v]) = if l = [] then v else max (mmax l) v := by
  cases l with
  | nil => rfl
  | cons x r => simp [mmax, List.foldl_append]
theorem mmin_mem : ∀ (l : List Int), l ≠ [] → mmin l ∈ l ∧ ∀ x ∈ l, mmin l ≤ x := by
  intro l h
  match l, h with
  | x :: r, _ =>
    clear h
    induction r generalizing x with
    | nil => simp [mmin]
    | cons y r ih =>
      have e : mmin (x :: y :: r) = min x (mmin (y :: r)) := by simp only [mmin, List.foldl_cons]; rw [foldl_min]
      obtain ⟨h1, h2⟩ := ih y (by simp)
      rw [e]
      refine ⟨?_, fun z hz => ?_⟩
      · rcases Int.le_total x (mmin (y :: r)) with q | q
        · rw [Int.min_eq_left q]; exact List.mem_cons_self ..
        · rw [Int.min_eq_right q]; exact List.mem_cons_of_mem _ h1
      · rcases List.mem_cons.1 hz with q | q
        · subst q; exact Int.min_le_left _ _
        · exact Int.le_trans (Int.min_le_right _ _) (h2 z q)
theorem mmax_mem : ∀ (l : List Int), l ≠ [] → mmax l ∈ l ∧ ∀ x ∈ l, x ≤ mmax l := by
  intro l h
  match l, h with
  | x :: r, _ =>
    clear h
    induction r generalizing x with
    | nil => simp [mmax]
    | cons y r ih =>
      have e : mmax (x :: y :: r) = max x (mmax (y :: r)) := by simp only [mmax, List.foldl_cons]; rw [foldl_max]
      obtain ⟨h1, h2⟩ := ih y (by simp)
      rw [e]
      refine ⟨?_, fun z hz => ?_⟩
      · rcases Int.le_total x (mmax (y :: r)) with q | q
        · rw [Int.max_eq_right q]; exact List.mem_cons_of_mem _ h1
        · rw [Int.max_eq_left q]; exact List.mem_cons_self ..
      · rcases List.mem_cons.1 hz with q | q
        · subst q; exact Int.le_max_left _ _
        · exact Int.le_trans (h2 z q) (Int.le_max_right _ _)
theorem mm_in {l : List Int} (h : ∀ z ∈ l, in64 z) : in64 (mmin l) ∧ in64 (mmax l) := by
  by_cases e : l = []
  · subst e; exact ⟨by unfold in64; simp [mmin], by unfold in64; simp [mmax]⟩
  · exact ⟨h _ (mmin_mem l e).1, h _ (mmax_mem l e).1⟩
/-! ### what a right cell is -/
structure RightC (c : Cel) : Prop where
  n : 0 ≤ c.n
  ce : 0 ≤ c.ce
  po : 0 ≤ c.po
  mm : c.mn ≤ c.mx
  ok : okH c.h = true
  sum : c.h.sum = c.n
  zero : c.n = 0 → c.s = 0 ∧ c.mn = 0 ∧ c.mx = 0
  low : c.n ≠ 0 → hAt c.h (bkt c.mn) ≠ 0
  high : c.n ≠ 0 → hAt c.h (bkt c.mx) ≠ 0
  all : c.n ≠ 0 → ∀ b, b < 65 → hAt c.h b ≠ 0 → bkt c.mn ≤ b ∧ b ≤ bkt c.mx
theorem right_iff {c : Cel} : rightC c = true ↔ RightC c := by
  unfold rightC
  simp only [Bool.and_eq_true, decide_eq_true_eq]
  constructor
  · rintro ⟨⟨⟨⟨h1, h2, h3, h4⟩, h5⟩, h6⟩, h7⟩
    by_cases e : c.n = 0
    · rw [if_pos e] at h7
      have h7 := of_decide_eq_true h7
      exact ⟨h1, h2, h3, h4, h5, h6, fun _ => h7, fun h => absurd e h, fun h => absurd e h, fun h => absurd e h⟩
    · rw [if_neg e, Bool.and_eq_true] at h7
      have h8 := of_decide_eq_true h7.1
      refine ⟨h1, h2, h3, h4, h5, h6, fun h => absurd h e, fun _ => h8.1, fun _ => h8.2, fun _ b hb hne => ?_⟩
      have := List.all_eq_true.1 h7.2 b (List.mem_range.2 hb)
      have := of_decide_eq_true this
      rcases this with q | q
      · exact absurd q hne
      · exact q
  · intro h
    refine ⟨⟨⟨⟨h.n, h.ce, h.po, h.mm⟩, h.ok⟩, h.sum⟩, ?_⟩
    by_cases e : c.n = 0
    · rw [if_pos e]; exact decide_eq_true (h.zero e)
    · rw [if_neg e, Bool.and_eq_true]
      refine ⟨decide_eq_true ⟨h.low e, h.high e⟩, List.all_eq_true.2 fun b hb => decide_eq_true ?_⟩
      by_cases q : hAt c.h b = 0
      · exact .inl q
      · exact .inr (h.all e b (List.mem_range.1 hb) q)
end Go.Proofs.YtbjmdnemeidpjaaGreat
/- Cells, in plain Lean: what is folded is right; one more value; notes; the order makes no difference. -/
namespace Go.Proofs.YtbjmdnemeidpjaaGreat
set_option linter.unusedSimpArgs false
set_option linter.unusedVariables false
open Go.RowKit
set_option linter.unusedSectionVars false
theorem bitLen_mono (y : Nat) : ∀ x : Nat, x ≤ y → y < 9223372036854775808 → Lib.bitLen x ≤ Lib.bitLen y := by
  induction y using Nat.strongRecOn with
  | ind y ih =>
    intro x hx hy
    by_cases h0 : x = 0
    · subst h0
      have : Lib.bitLen 0 = 0 := by decide
      omega
    · rw [bitLen_pos h0 (by omega), bitLen_pos (x := y) (by omega) hy]
      have := ih (y / 2) (by omega) (x / 2) (by omega) (by omega)
      omega
theorem bkt_mono {x y : Int} (h : x ≤ y) (hy : y ≤ 9223372036854775807) : bkt x ≤ bkt y := by
  unfold bkt
  have := bitLen_mono y.toNat x.toNat (by omega) (by omega)
  split <;> split <;> (try split) <;> (try split) <;> omega
theorem hAt_histL (l : List Int) {b : Nat} (hb : b < 65) : hAt (histL l) b = (l.countP (fun v => bkt v == b) : Nat) := histL_get l b hb
theorem hAt_bump {h : List Int} (hl : h.length = 65) {k : Nat} (hk : k < 65) (b : Nat) : hAt (bump h k) b = if b = k then hAt h k + 1 else hAt h b := by
  unfold hAt bump
  rw [List.getElem?_set]
  by_cases e : k = b
  · subst e
    rw [if_pos rfl, if_pos (by omega), if_pos rfl]; rfl
  · rw [if_neg e, if_neg (fun q => e q.symm)]
theorem sum_bump : ∀ (h : List Int) (k : Nat), k < h.length → (bump h k).sum = h.sum + 1
  | [], k, hk => absurd hk (by simp)
  | x :: h, 0, _ => by simp [bump]; omega
  | x :: h, k + 1, hk => by
    have := sum_bump h k (by simpa using hk)
    unfold bump at *
    simp only [List.set_cons_succ, List.getElem?_cons_succ, List.sum_cons]
    omega
theorem okH_bump {h : List Int} {k : Nat} (ho : okH h = true) : okH (bump h k) = true := by
  unfold okH bump at *
  rw [List.all_eq_true] at *
  intro x hx
  rcases List.mem_or_eq_of_mem_set hx with q | q
  · exact ho x q
  · subst q
    have := okH_at (l := h) (by unfold okH; exact List.all_eq_true.2 ho) k
    exact decide_eq_true (by omega)
theorem okH_le_sum : ∀ {h : List Int}, okH h = true → ∀ x ∈ h, 0 ≤ x ∧ x ≤ h.sum
  | [], _, x, hx => absurd hx (by simp)
  | y :: h, ho, x, hx => by
    unfold okH at ho
    rw [List.all_cons, Bool.and_eq_true] at ho
    have hy := of_decide_eq_true ho.1
    have hs : 0 ≤ h.sum := by
      have : ∀ l : List Int, okH l = true → 0 ≤ l.sum := by
        intro l
        induction l with
        | nil => intro _; simp
        | cons z l ih =>
          intro q
          unfold okH at q
          rw [List.all_cons, Bool.and_eq_true] at q
          have := of_decide_eq_true q.1
          have := ih q.2
          rw [List.sum_cons]; omega
      exact this h ho.2
    rw [List.sum_cons]
    rcases List.mem_cons.1 hx with q | q
    · subst q; omega
    · have := okH_le_sum (h := h) ho.2 x q
      omega
theorem hAt_mem {h : List Int} (hl : h.length = 65) {b : Nat} (hb : b < 65) : hAt h b ∈ h := by
  unfold hAt
  rw [List.getElem?_eq_getElem (by omega)]
  exact List.getElem_mem _
theorem hAt_le {c : Cel} (h : RightC c) (hl : c.h.length = 65) {b : Nat} (hb : b < 65) : 0 ≤ hAt c.h b ∧ hAt c.h b ≤ c.n := by
  have := okH_le_sum h.ok _ (hAt_mem hl hb)
  rw [h.sum] at this
  exact this
theorem rightC_zC : rightC zC = true := by decide
/-! ### what is folded -/
theorem sum_in128 {l : List Int} (h : ∀ z ∈ l, in64 z) (hn : l.length ≤ 65536) : in128 l.sum := by
  have := sum_abs l h
  unfold in128 hiZ word in64
  omega
theorem foldC_ok {l : List Int} (h : ∀ z ∈ l, in64 z) (hn : l.length ≤ 65536) : CelOK (foldC l) where
  n := by show in64 (l.length : Int); unfold in64; omega
  s := sum_in128 h hn
  mn := (mm_in h).1
  mx := (mm_in h).2
  ce := by show in64 0; unfold in64; omega
  po := by show in64 0; unfold in64; omega
  hl := histL_len l
  hx := fun z hz => by have := histL_mem l z hz; unfold in64; omega
theorem foldC_right {l : List Int} (h : ∀ z ∈ l, in64 z) : RightC (foldC l) := by
  have hin : inL l := fun x hx => h x hx
  refine ⟨by show (0 : Int) ≤ (l.length : Int); omega, Int.le_refl _, Int.le_refl _, ?_, histL_ok l, histL_sum l hin, ?_, ?_, ?_, ?_⟩
  · show mmin l ≤ mmax l
    by_cases e : l = []
    · subst e; exact Int.le_refl _
    · exact (mmin_mem l e).2 _ (mmax_mem l e).1
  · intro q
    have q : (l.length : Int) = 0 := q
    have : l = [] := List.length_eq_zero_iff.1 (by omega)
    subst this
    exact ⟨rfl, rfl, rfl⟩
  · intro q
    have e : l ≠ [] := fun e => q (by subst e; rfl)
    have hm := (mmin_mem l e).1
    show hAt (histL l) (bkt (mmin l)) ≠ 0
    rw [hAt_histL l (bkt_lt _ (h _ hm).2)]
    have : 0 < l.countP (fun v => bkt v == bkt (mmin l)) := List.countP_pos_iff.2 ⟨_, hm, by simp⟩
    omega
  · intro q
    have e : l ≠ [] := fun e => q (by subst e; rfl)
    have hm := (mmax_mem l e).1
    show hAt (histL l) (bkt (mmax l)) ≠ 0
    rw [hAt_histL l (bkt_lt _ (h _ hm).2)]
    have : 0 < l.countP (fun v => bkt v == bkt (mmax l)) := List.countP_pos_iff.2 ⟨_, hm, by simp⟩
    omega
  · intro q b hb hne
    have e : l ≠ [] := fun e => q (by subst e; rfl)
    have hne : hAt (histL l) b ≠ 0 := hne
    rw [hAt_histL l hb] at hne
    have : 0 < l.countP (fun v => bkt v == b) := by omega
    obtain ⟨v, hv, hvb⟩ := List.countP_pos_iff.1 this
    have hvb : bkt v = b := by simpa using hvb
    subst hvb
    exact ⟨bkt_mono ((mmin_mem l e).2 v hv) (h v hv).2, bkt_mono ((mmax_mem l e).2 v hv) (h _ (mmax_mem l e).1).2⟩
/-! ### one more value -/
theorem addC_ok {c : Cel} {v : Int} (hc : CelOK c) (hr : RightC c) (hv : in64 v) (hn : c.n ≠ big) (hs : in128 (c.s + v)) : CelOK (addC c v).1 := by
  unfold addC
  rw [if_neg (by rw [right_iff.2 hr]; simp), if_neg hn, if_neg (by simpa using hs)]
  have h1 := hc.n
  have h2 := hr.n
  unfold big at hn
  refine ⟨?_, hs, ?_, ?_, hc.ce, hc.po, by show (bump c.h (bkt v)).length = 65; rw [bump_len]; exact hc.hl, ?_⟩
  · show in64 (c.n + 1); unfold in64 at *; omega
  · show in64 (if c.n = 0 then v else min c.mn v)
    have := hc.mn
    unfold in64 at *
    split <;> omega
  · show in64 (if c.n = 0 then v else max c.mx v)
    have := hc.mx
    unfold in64 at *
    split <;> omega
  · intro z hz
    have hz : z ∈ bump c.h (bkt v) := hz
    have := okH_le_sum (okH_bump (k := bkt v) hr.ok) z hz
    rw [sum_bump _ _ (by rw [hc.hl]; exact bkt_lt v hv.2), hr.sum] at this
    unfold in64 at *
    omega
theorem addC_right {c : Cel} {v : Int} (hc : CelOK c) (hr : RightC c) (hv : in64 v) (hn : c.n ≠ big) (hs : in128 (c.s + v)) : RightC (addC c v).1 := by
  unfold addC
  rw [if_neg (by rw [right_iff.2 hr]; simp), if_neg hn, if_neg (by simpa using hs)]
  have h2 := hr.n
  have hb := bkt_lt v hv.2
  have hA := hAt_bump hc.hl hb
  have hx := fun b (q : b < 65) => hAt_le hr hc.hl q
  refine ⟨by show 0 ≤ c.n + 1; omega, hr.ce, hr.po, ?_, okH_bump hr.ok, ?_, ?_, ?_, ?_, ?_⟩
  · show (if c.n = 0 then v else min c.mn v) ≤ (if c.n = 0 then v else max c.mx v)
    have := hr.mm
    split <;> omega
  · show (bump c.h (bkt v)).sum = c.n + 1
    rw [sum_bump _ _ (by rw [hc.hl]; exact hb), hr.sum]
  · intro q
    have q : c.n + 1 = 0 := q
    omega
  · intro _
    show hAt (bump c.h (bkt v)) (bkt (if c.n = 0 then v else min c.mn v)) ≠ 0
    rw [hA]
    have := hx _ hb
    by_cases e : c.n = 0
    · rw [if_pos e, if_pos rfl]; omega
    · rw [if_neg e]
      by_cases q : bkt (min c.mn v) = bkt v
      · rw [if_pos q]; omega
      · rw [if_neg q]
        rcases Int.le_total c.mn v with r | r
        · rw [Int.min_eq_left r]; exact hr.low e
        · rw [Int.min_eq_right r] at q; exact absurd rfl q
  · intro _
    show hAt (bump c.h (bkt v)) (bkt (if c.n = 0 then v else max c.mx v)) ≠ 0
    rw [hA]
    have := hx _ hb
    by_cases e : c.n = 0
    · rw [if_pos e, if_pos rfl]; omega
    · rw [if_neg e]
      by_cases q : bkt (max c.mx v) = bkt v
      · rw [if_pos q]; omega
      · rw [if_neg q]
        rcases Int.le_total c.mx v with r | r
        · rw [Int.max_eq_right r] at q; exact absurd rfl q
        · rw [Int.max_eq_left r]; exact hr.high e
  · intro _ b hb2 hne
    have hne : hAt (bump c.h (bkt v)) b ≠ 0 := hne
    show bkt (if c.n = 0 then v else min c.mn v) ≤ b ∧ b ≤ bkt (if c.n = 0 then v else max c.mx v)
    rw [hA] at hne
    by_cases e : c.n = 0
    · rw [if_pos e, if_pos e]
      by_cases q : b = bkt v
      · omega
      · rw [if_neg q] at hne
        have := hx b hb2
        omega
    · rw [if_neg e, if_neg e]
      have m1 := bkt_mono (x := min c.mn v) (y := c.mn) (by omega) hc.mn.2
      have m2 := bkt_mono (x := min c.mn v) (y := v) (by omega) hv.2
      have m3 := bkt_mono (x := c.mx) (y := max c.mx v) (by omega) (by have := hc.mx.2; have := hv.2; omega)
      have m4 := bkt_mono (x := v) (y := max c.mx v) (by omega) (by have := hc.mx.2; have := hv.2; omega)
      by_cases q : b = bkt v
      · omega
      · rw [if_neg q] at hne
        have := hr.all e b hb2 hne
        omega
theorem addC_fine {c : Cel} {v : Int} (hr : RightC c) (hn : c.n ≠ big) (hs : in128 (c.s + v)) : addC c v = (⟨c.n + 1, c.s + v, if c.n = 0 then v else min c.mn v, if c.n = 0 then v else max c.mx v, c.ce, c.po, bump c.h (bkt v)⟩, 0) := by
  unfold addC
  rw [if_neg (by rw [right_iff.2 hr]; simp), if_neg hn, if_neg (by simpa using hs)]
theorem hist_fine {c : Cel} {v : Int} (hc : CelOK c) (hr : RightC c) (hv : in64 v) (hn : c.n ≠ big) : addE c.h v = 0 ∧ addL c.h v = bump c.h (bkt v) := by
  have h : addE c.h v = 0 := by
    unfold addE
    rw [if_neg (by rw [hr.ok]; simp), if_neg]
    intro q
    have hb := bkt_lt v hv.2
    have := (hAt_le hr hc.hl hb).2
    unfold hAt at this
    rw [q] at this
    have h2 := hc.n.2
    unfold big at hn
    exact hn (by simp at this; omega)
  exact ⟨h, by unfold addL; rw [if_pos h]⟩
/-! ### notes -/
theorem noteC_fine {c : Cel} {b : Bool} (hr : RightC c) (hn : (if b then c.ce else c.po) ≠ big) : noteC c b = (⟨c.n, c.s, c.mn, c.mx, if b then c.ce + 1 else c.ce, if b then c.po else c.po + 1, c.h⟩, 0) := by
  unfold noteC
  rw [if_neg (by rw [right_iff.2 hr]; simp), if_neg hn]
theorem noteC_right {c : Cel} {b : Bool} (hr : RightC c) (hn : (if b then c.ce else c.po) ≠ big) : RightC (noteC c b).1 := by
  rw [noteC_fine hr hn]
  have h1 := hr.ce
  have h2 := hr.po
  refine ⟨hr.n, ?_, ?_, hr.mm, hr.ok, hr.sum, hr.zero, hr.low, hr.high, hr.all⟩
  · show 0 ≤ if b then c.ce + 1 else c.ce
    split <;> omega
  · show 0 ≤ if b then c.po else c.po + 1
    split <;> omega
theorem noteC_ok {c : Cel} {b : Bool} (hc : CelOK c) (hr : RightC c) (hn : (if b then c.ce else c.po) ≠ big) : CelOK (noteC c b).1 := by
  rw [noteC_fine hr hn]
  have h1 := hr.ce
  have h2 := hr.po
  have h3 := hc.ce
  have h4 := hc.po
  refine ⟨hc.n, hc.s, hc.mn, hc.mx, ?_, ?_, hc.hl, hc.hx⟩
  · show in64 (if b then c.ce + 1 else c.ce)
    unfold in64 big at *
    cases b <;> simp at * <;> omega
  · show in64 (if b then c.po else c.po + 1)
    unfold in64 big at *
    cases b <;> simp at * <;> omega
end Go.Proofs.YtbjmdnemeidpjaaGreat
/- Full: the maker of the iterator, and the iterator's contract. -/
namespace Go.Proofs.YtbjmdnemeidpjaaGreat
open Go.RowKit
set_option linter.unusedVariables false
set_option linter.unusedSimpArgs false
attribute [local go_sem] Oper.semAt_some
end Go.Proofs.YtbjmdnemeidpjaaGreat
/- gap.New, Bounds. -/
namespace Go.Proofs.YtbjmdnemeidpjaaGreat
open Go.RowKit
set_option linter.unusedVariables false
set_option linter.unusedSimpArgs false
end Go.Proofs.YtbjmdnemeidpjaaGreat
/- What the statements share: CopyBytes, SameBytes; and bytes.Clone. -/
namespace Go.Proofs.YtbjmdnemeidpjaaGreat
open Go.RowKit
set_option linter.unusedVariables false
set_option linter.unusedSimpArgs false

end Go.Proofs.YtbjmdnemeidpjaaGreat
/- Numbers as bytes, and back: plain arithmetic. -/
namespace Go.Proofs.YtbjmdnemeidpjaaGreat
set_option linter.unusedSimpArgs false
set_option linter.unusedVariables false

def encF : Nat → Nat → List UInt8
  | 0, u => [UInt8.ofNat u]
  | f + 1, u => if u < 128 then [UInt8.ofNat u] else UInt8.ofNat (128 + u % 128) :: encF f (u / 128)
/-- The bytes of a number. -/
def enc (u : Nat) : List UInt8 := encF 9 u
/-! ### reading -/
/-- From place i on, so much read: the number, its size, the fault (10: not in form, 15: at its end). -/
def decF (i acc : Nat) : List UInt8 → Nat × Nat × Nat
  | [] => (0, 0, 15)
  | c :: r => if (c.toNat = 0 ∧ 0 < i) ∨ (1 < c.toNat ∧ i = 9) then (0, 0, 10) else if c.toNat < 128 then (acc + c.toNat * 128 ^ i, i + 1, 0) else decF (i + 1) (acc + c.toNat % 128 * 128 ^ i) r
def dec (l : List UInt8) : Nat × Nat × Nat := decF 0 0 l

end Go.Proofs.YtbjmdnemeidpjaaGreat
/- code.put, code.first, code.count. -/
namespace Go.Proofs.YtbjmdnemeidpjaaGreat
open Go.RowKit
set_option linter.unusedVariables false
set_option linter.unusedSimpArgs false

end Go.Proofs.YtbjmdnemeidpjaaGreat
/- code.first, code.count. -/
namespace Go.Proofs.YtbjmdnemeidpjaaGreat
open Go.RowKit
set_option linter.unusedVariables false
set_option linter.unusedSimpArgs false

end Go.Proofs.YtbjmdnemeidpjaaGreat
/- code.count, and the Reader's methods. -/
namespace Go.Proofs.YtbjmdnemeidpjaaGreat
open Go.RowKit
set_option linter.unusedVariables false
set_option linter.unusedSimpArgs false

def cnt (l : List UInt8) (most : Int) : Nat × Nat × Nat := if (dec l).2.2 ≠ 0 then (0, 0, (dec l).2.2) else if max most 0 < (dec l).1 then (0, 0, 17) else dec l
/-! ### the Reader -/
def tkL (l : List UInt8) (e size er : Nat) : List UInt8 := if e = 0 ∧ er = 0 then l.drop size else l
def tkE (e er : Nat) : Nat := if e = 0 then er else e
/-! ### Uint, Count, Left, Err, End -/
def uV (l : List UInt8) (e : Nat) : Nat := if e = 0 ∧ (dec l).2.2 = 0 then (dec l).1 else 0
end Go.Proofs.YtbjmdnemeidpjaaGreat
/- code.Turn, code.Unturn. -/
namespace Go.Proofs.YtbjmdnemeidpjaaGreat
open Go.RowKit
set_option linter.unusedVariables false
set_option linter.unusedSimpArgs false

def unturnZ (u : Nat) : Int := if u % 2 = 0 then (u : Int) / 2 else -((u : Int) / 2) - 1
/-! ### Int, Count, Left, Err, End -/
def cV (l : List UInt8) (e : Nat) (most : Int) : Nat := if e = 0 ∧ (cnt l most).2.2 = 0 then (cnt l most).1 else 0
def endE (l : List UInt8) (e : Nat) : Nat := if l = [] then e else tkE e 10
end Go.Proofs.YtbjmdnemeidpjaaGreat
/- append of a string's bytes onto an owned slice; a slice of strings that is read; bytes as a string. No program is named here. -/
namespace Go.Proofs.YtbjmdnemeidpjaaGreat
set_option linter.unusedSimpArgs false
set_option linter.unusedVariables false
open Go.RowKit

section
variable {P : Program} (w : World)
end
end Go.Proofs.YtbjmdnemeidpjaaGreat
/- code.Uints, code.Ints, code.Texts, code.New, (*Reader).Text. -/
namespace Go.Proofs.YtbjmdnemeidpjaaGreat
open Go.RowKit
set_option linter.unusedVariables false
set_option linter.unusedSimpArgs false

def encs (l : List Nat) : List UInt8 := (l.map enc).flatten
/-! ### New, Text -/
def tE (l : List UInt8) (most : Int) : Nat := if (cnt l most).2.2 = 0 ∧ l.length - (cnt l most).2.1 < (cnt l most).1 then 15 else (cnt l most).2.2
def tV (l : List UInt8) (e : Nat) (most : Int) : List UInt8 := if e = 0 ∧ tE l most = 0 then (l.drop (cnt l most).2.1).take (cnt l most).1 else []
end Go.Proofs.YtbjmdnemeidpjaaGreat
/- alive answers true. -/
namespace Go.Proofs.YtbjmdnemeidpjaaGreat
open Go.RowKit
set_option linter.unusedVariables false
set_option linter.unusedSimpArgs false

def k0 : List UInt8 := [172, 2, 5, 1, 97, 9]
def k1 : List UInt8 := [5, 1, 97, 9]
def k2 : List UInt8 := [1, 97, 9]
theorem f0 : uV k0 0 = 300 ∧ tkL k0 0 (dec k0).2.1 (dec k0).2.2 = k1 ∧ tkE 0 (dec k0).2.2 = 0 := by decide +kernel
theorem f1 : unturnZ (uV k1 0) = -3 ∧ tkL k1 0 (dec k1).2.1 (dec k1).2.2 = k2 ∧ tkE 0 (dec k1).2.2 = 0 := by decide +kernel
theorem f2 : tV k2 0 1 = [97] ∧ tkL k2 0 ((cnt k2 1).2.1 + (cnt k2 1).1) (tE k2 1) = [9] ∧ tkE 0 (tE k2 1) = 0 := by decide +kernel
theorem f3 : cV [9] 0 8 = 0 ∧ tkL [9] 0 (cnt [9] 8).2.1 (cnt [9] 8).2.2 = [9] ∧ tkE 0 (cnt [9] 8).2.2 = 17 := by decide +kernel
theorem f4 : endE [9] 17 = 17 := by decide +kernel
theorem f5 : encs [300, 0] = [172, 2, 0] := by decide +kernel
end Go.Proofs.YtbjmdnemeidpjaaGreat
/- alive of layer 5. -/
namespace Go.Proofs.YtbjmdnemeidpjaaGreat
open Go.RowKit
attribute [local go_sem] Oper.semAt_some
set_option linter.unusedVariables false
set_option linter.unusedSimpArgs false
def hA : List Int := histL [0, 1, 1, 5]
def hM : List Int := mergeR [hA, hA]
def hN : List Int := addL hA (-9)
end Go.Proofs.YtbjmdnemeidpjaaGreat
/- The document's Rank, and Total, Rank and Full of the program. -/
namespace Go.Proofs.YtbjmdnemeidpjaaGreat
set_option linter.unusedSimpArgs false
set_option linter.unusedVariables false
open Go.RowKit
set_option maxRecDepth 100000
theorem wideZ_hi {hi lo : Int} (h0 : 0 ≤ lo) (h1 : lo < word) : hiZ (wideZ hi lo) = hi ∧ loZ (wideZ hi lo) = lo := by
  unfold hiZ loZ wideZ word at *
  omega
end Go.Proofs.YtbjmdnemeidpjaaGreat
/- Full: the buckets that are not empty, in order. -/
namespace Go.Proofs.YtbjmdnemeidpjaaGreat
set_option linter.unusedSimpArgs false
set_option linter.unusedVariables false
open Go.RowKit
set_option maxRecDepth 100000
/-- From the bucket y on the next one that is not empty is b. -/
def NxF (l : List Int) (y b : Nat) (v : Int) (y' : Nat) : Prop := y ≤ b ∧ b < 65 ∧ l[b]? = some v ∧ v ≠ 0 ∧ (∀ j, y ≤ j → j < b → l[j]? = some 0) ∧ y' = b + 1
def FinF (l : List Int) (y : Nat) : Prop := y ≤ 65 ∧ ∀ j, y ≤ j → j < 65 → l[j]? = some 0
theorem sees_row {l : List Int} {Lc : List AObj} {i : Nat} (hi : Lc[i]? = some (.row (hR l))) {us vs : List Value} {ρ0 : Nat → Option Value} {w : World}
    (h : ∃ F ρ H, Env F ρ H w ∧ (∀ (i : Nat) o, Lc[i]? = some o → o.live = true → H i = some o ∧ ∃ h, ρ0 i = some h ∧ ρ i = some h) ∧ RAs w F ρ [] us ∧ RAs w F ρ [.ptr i 0] vs) :
    us = [] ∧ ∃ b t, vs = [.pointer (some ⟨b, 0, none⟩)] ∧ Blk w b t (hc l) := by
  obtain ⟨F, ρ, H, E, ho, h1, h2⟩ := h
  cases h1
  refine ⟨rfl, ?_⟩
  obtain ⟨v, rfl, hv⟩ := h2.one_out
  cases hv with | @ptr _ _ b hρ =>
  obtain ⟨hHi, hh, e1, e2⟩ := ho i _ hi rfl
  obtain ⟨h', e3, ⟨b', t, vs, rfl, hB, hR'⟩, _⟩ := E.rep i _ hHi rfl
  rw [hρ] at e3; injection e3 with e3; injection e3 with e3; injection e3 with e3; injection e3 with e3
  subst e3
  have := (hR_flat l).eq hR'
  have hv : vs = hc l := by
    apply Array.ext'
    rw [this]; rfl
  subst hv
  exact ⟨b, t, rfl, hB⟩
theorem wpListIn_load_blk2 {P : Program} {F : Fence} {n : Nat} {w : World} {ops : Array Oper} {rest : List Oper} {op : Oper} {a : Act} {Q : Exit → Act → World → Prop} (hgd : op.guard = none) (t t' : TypeId) (x : Operand) (ho : op.op = .load t x)
    (b : Nat) (hx : a.eval x = .pointer (some ⟨b, 0, none⟩)) (cs : Array Value) (d : TypeDesc) (hB : Blk w b t' cs)
    (hu : P.underlying t = some d) (hd : d.isRow = true) (hi : (P.info? t).map (·.size) = some cs.size)
    (h : wpListIn F n P ops Q rest (a.put op.dst (.agg cs)) w) : wpListIn F n P ops Q (op :: rest) a w :=
  wpListIn_plain hgd fun _ hK => by
    refine ⟨fun f hf => by simp [Oper.about, ho] at hf, ?_⟩
    rw [Oper.semAt_eq _ _ _ (fun c h => by rw [ho] at h; cases h)]
    unfold execOp
    have hr : (loadVar t ⟨b, 0, none⟩).run P w = .ok (.agg cs) w := run_loadVar_row w b t' t cs (0, 0) d hB hu (by cases d <;> simp_all) hi
    simp only [ho, hx, Instr.loadAt, Instr.sureAddr, Sem.run_bind, Sem.run_pure, Result.andThen_ok, hr]
    exact hK _ _ h
attribute [local go_sem] Oper.semAt_some
set_option maxHeartbeats 1000000 in
theorem fullN {l : List Int} (hl : l.length = 65) {Lc : List AObj} {i : Nat} (hi : Lc[i]? = some (.row (hR l))) :
    IterN Tryz.prog 76 [] [.ptr i 0] Lc 0 (fun y x y' => ∃ b v, NxF l y b v y' ∧ x = [iA (b : Nat), iA v]) (FinF l) := by
  intro us vs lp ρ0
  refine ⟨fun y vals y' => ∃ b v, NxF l y b v y' ∧ vals = [.int .i64 (b : Nat), .int .i64 v], fun y vals y' h => ?_, ?_⟩
  · obtain ⟨b, v, h, rfl⟩ := h
    exact ⟨_, ⟨b, v, h, rfl⟩, fun w F ρ => .cons (.d (.v _)) (.cons (.d (.v _)) .nil)⟩
  intro J Jx hJ hN hNx hY O w h0
  obtain ⟨rfl, g, t, rfl, hB⟩ := sees_row hi (hJ 0 O w h0).1
  have H9 := hide hl
  have HB := hide hB
  clear hJ hN hNx hB hi
  refine (callsIn_wide (n := 1)).1 (callsIn_of_wp Tryz.func76 rfl trivial ?_ rfl)
  simp only [Tryz.ntmps76, List.size_toArray, List.length_cons, List.length_nil, Nat.reduceAdd, Nat.reduceSub, Array.replicate_succ, Array.replicate_zero, List.push_toArray, List.append_toArray, List.nil_append, List.cons_append]
  gi_wp2_with (refine wpListIn_load_blk2 rfl 39 t (.tmp 1) rfl g rfl (hc l) _ HB.out Tryz.underlying39 rfl (info69l H9.out) ?_)
  gi_loopw [3, 4, 6] (fun _ _ i wr => ∃ (k y : Nat) (O : Nat → Prop), k ≤ 65 ∧ y ≤ k ∧ (∀ j, y ≤ j → j < k → l[j]? = some 0) ∧ i = .int .i64 k ∧ J y O wr) (fun _ _ i _ => 65 - (intOf i).toNat)
  case atStart => exact ⟨0, 0, O, by omega, by omega, fun j h1 h2 => by omega, rfl, h0⟩
  case round =>
    obtain ⟨k, y, O1, hk, hyk, hz, rfl, hJ⟩ := hrel
    have HZ := hide hz
    clear hz
    by_cases hk1 : k < 65
    · obtain ⟨x, hx⟩ : ∃ x, l[k]? = some x := ⟨l[k]'(by have := H9.out; omega), List.getElem?_eq_getElem _⟩
      have hix := fun w => index_h l k x w hk1 hx
      by_cases h0 : x = 0
      · subst h0
        have HX := hide hx
        clear hx
        gi_wp2
        refine ⟨fun _ h => (by cases h), ?_⟩
        gi_wp2
        go_roundw
        case rel => exact ⟨k + 1, y, O1, by omega, by omega, fun j h1 h2 => by
                      rcases Nat.lt_or_ge j k with q | q
                      · exact HZ.out j h1 q
                      · rw [show j = k by omega]; exact HX.out, by go_num, hJ⟩
        case measure => simp [intOf]; omega
      · have hne : (x != 0) = true := by simpa using h0
        have HNx := hide (show NxF l y k x (k + 1) from ⟨hyk, hk1, hx, h0, HZ.out, rfl⟩)
        obtain ⟨fn, tmps, assign, body, hy, hR⟩ := hY y O1 _ _ (k + 1) ⟨k, x, HNx.out, rfl⟩ hJ
        clear hx hJ h0
        gi_wp2
        refine hR.mono ?_
        rintro e W3 ⟨O', hfar, hO', ⟨rfl, hJ3⟩ | ⟨rfl, hJx3⟩⟩
        · clear hR hy hfar
          gi_wp2
          go_roundw
          case rel => exact ⟨k + 1, k + 1, O', by omega, by omega, fun j h1 h2 => by omega, by go_num, hJ3⟩
          case measure => simp [intOf]; omega
        · clear hR hy hfar
          gi_wp2
          refine bodyPost_ret (results_none rfl _ _ _) rfl ?_
          exact ⟨⟨_, rfl⟩, _, .inr hJx3⟩
    · obtain rfl : k = 65 := by omega
      gi_wp2
      go_end0
      exact ⟨⟨_, rfl⟩, O1, .inl ⟨y, ⟨hyk, HZ.out⟩, hJ⟩⟩
end Go.Proofs.YtbjmdnemeidpjaaGreat
/- HistCounts, its law: every Of, Add and Merge is answered as the document says. -/
namespace Go.Proofs.YtbjmdnemeidpjaaGreat
set_option linter.unusedSimpArgs false
set_option linter.unusedVariables false
open Go.RowKit
set_option maxRecDepth 100000
section
variable {L : List AObj} {ty n : Nat} {x y : Operand} {t' : TypeId}
end
theorem s69 : (tiOf Tryz.prog 39).size = 65 := by kernel_rfl
theorem mergeR_len (ls : List (List Int)) : (mergeR ls).length = 65 := by
  unfold mergeR
  split
  · simp [mergeL]
  · rfl
theorem flat_hR : ∀ (l : List Int), flatDs (hR l) = true
  | [] => by simp [flatDs]
  | z :: l => by
    show flatDs (iD z :: hR l) = true
    rw [flatDs, flat_hR l]; rfl
theorem flat_hD (l : List Int) : flatD (hD l) = true := by
  show flatD (.agg (hR l)) = true
  rw [flatD]; exact flat_hR l
theorem flat_hA (l : List Int) : flatA (.d (hD l)) = true := by rw [flatA]; exact flat_hD l
theorem flat_hE (l : List Int) (e : Int) : flatA (.tup [.d (hD l), iA e]) = true := by
  rw [flatA, flatAs, flatAs, flatAs, flat_hA]; rfl
theorem z69 : List.map D.v (tiOf Tryz.prog 39).zero = hR z65 := by kernel_rfl
theorem z68 : List.map D.v (tiOf Tryz.prog 38).zero = hR z65 := by kernel_rfl
theorem fit69 {l : List Int} (h : l.length = 65) : 0 + (hR l).length ≤ (List.map D.v (tiOf Tryz.prog 39).zero).length := by rw [z69]; exact sets_fit z65_len h
theorem fit68 {l : List Int} (h : l.length = 65) : 0 + (hR l).length ≤ (List.map D.v (tiOf Tryz.prog 38).zero).length := by rw [z68]; exact sets_fit z65_len h
theorem set69 {l : List Int} (h : l.length = 65) : sets (List.map D.v (tiOf Tryz.prog 39).zero) 0 (hR l) = hR l := by rw [z69]; exact rows_whole z65_len h
theorem set68 {l : List Int} (h : l.length = 65) : sets (List.map D.v (tiOf Tryz.prog 38).zero) 0 (hR l) = hR l := by rw [z68]; exact rows_whole z65_len h
theorem add_merge (q : List Int) (v : Int) (hq : q.length = 65) (hv : in64 v) (hx : ∀ z ∈ q, in64 z) : addL q v = mergeR [q, histL [v]] ∧ addE q v = mergeE [q, histL [v]] := by
  have hb := bkt_lt v hv.2
  have hok := histL_ok [v]
  have hs : ∀ j, sumAt [q, histL [v]] j = q[j]?.getD 0 + (histL [v])[j]?.getD 0 := fun j => by simp [sumAt]
  have hw : ∀ j, j < 65 → (histL [v])[j]?.getD 0 = if bkt v = j then 1 else 0 := fun j hj => by
    rw [histL_get [v] j hj]
    simp [List.countP_cons]
    split <;> rfl
  have hqj : ∀ j, j < 65 → q[j]?.getD 0 ≤ 9223372036854775807 := fun j hj => by
    rw [List.getElem?_eq_getElem (by omega)]
    exact (hx _ (List.getElem_mem _)).2
  by_cases h1 : okH q = true
  · have hall : [q, histL [v]].all okH = true := by simp [h1, hok]
    by_cases h2 : q[bkt v]? = some 9223372036854775807
    · have e : addE q v = 12 := by unfold addE; rw [if_neg (by simp [h1]), if_pos h2]
      obtain ⟨m1, m2⟩ := merge_over hall hb (by rw [hs, hw _ hb, if_pos rfl, h2]; simp)
      rw [m1, m2, e]
      exact ⟨by unfold addL; rw [e]; rfl, rfl⟩
    · have e : addE q v = 0 := by unfold addE; rw [if_neg (by simp [h1]), if_neg h2]
      obtain ⟨m1, m2⟩ := merge_fine hall (fun k hk => by
        rw [hs, hw k hk]
        have := hqj k hk
        split
        · rename_i e; subst e
          rcases Int.lt_or_eq_of_le this with q1 | q1
          · omega
          · exfalso
            apply h2
            rw [List.getElem?_eq_getElem (by omega)] at q1 ⊢
            simpa using q1
        · omega)
      rw [m1, m2, e]
      refine ⟨?_, rfl⟩
      unfold addL
      rw [e, if_pos rfl]
      refine ext65 (by rw [bump_len, hq]) (by simp [mergeL]) fun b hb2 => ?_
      have : (mergeL [q, histL [v]])[b]?.getD 0 = sumAt [q, histL [v]] b := by unfold mergeL; rw [List.getElem?_map, List.getElem?_range hb2]; rfl
      rw [this, hs, hw b hb2]
      unfold bump
      rw [List.getElem?_set]
      by_cases e : bkt v = b
      · subst e; simp [hq, hb]
      · simp [e]
  · have h1 : okH q = false := by simpa using h1
    have e : addE q v = 10 := by unfold addE; rw [if_pos h1]
    obtain ⟨m1, m2⟩ := merge_form (ls := [q, histL [v]]) (by simp [h1])
    rw [m1, m2, e]
    exact ⟨by unfold addL; rw [e]; rfl, rfl⟩
/-! ### the arguments -/
theorem ty_long1 {P : Program} {m : Nat} {t : TypeId} {ds : List D} (h : Ty P (m + 1) t ds) (hu : P.underlying t = some (.int .i64)) : ∃ z, ds = [iD z] ∧ in64 z := by
  have h : TyB (Ty P m) P t ds := h
  unfold TyB at h
  rw [hu] at h
  obtain ⟨z, h1, h2⟩ := h
  exact ⟨z, h1, wf_i64 h2⟩
theorem flat_ints (l : List Int) : (l.map lR).flatten = hR l := by
  induction l with
  | nil => rfl
  | cons z l ih => rw [List.map_cons, List.flatten_cons, ih]; rfl
theorem ty_harr {P : Program} {m : Nat} {t e : TypeId} {ds : List D} (h : Ty P (m + 2) t ds) (hu : P.underlying t = some (.array 65 e)) (he : P.underlying e = some (.int .i64)) : ∃ q : List Int, ds = hR q ∧ q.length = 65 ∧ ∀ z ∈ q, in64 z := by
  have h : TyB (Ty P (m + 1)) P t ds := h
  unfold TyB at h
  rw [hu] at h
  obtain ⟨dss, rfl, h1, h2⟩ := h
  obtain ⟨l, rfl, h3⟩ := rows_map (f := lR) (p := in64) fun r hr => ty_long1 (h2 r hr) he
  exact ⟨l, flat_ints l, by simpa using h1, h3⟩
end Go.Proofs.YtbjmdnemeidpjaaGreat
/- HistRanks, its law: every Total, Rank and Full is answered as the document says. -/
namespace Go.Proofs.YtbjmdnemeidpjaaGreat
set_option linter.unusedSimpArgs false
set_option linter.unusedVariables false
open Go.RowKit
set_option maxRecDepth 100000
theorem full_sat (l : List Int) : Sat Tryz.prog 57 [.d (hD l)] [] (.fn (.func 76) [] [.ptr 0 0]) [.row (hR l)] := by
  refine sat_of_vc (T := tiOf Tryz.prog) (E := E0) Tryz.func57 rfl rfl hE0 hm0 rfl ?_
  conv => whnf
  repeat' (first | exact True.intro | ((first | refine Or.inl ?_ | refine And.intro (fun _ => ?_) tf | refine And.intro ft (fun _ => ?_) | refine And.intro (by kernel_rfl) ?_ | refine And.intro (by decide) ?_ | refine And.intro (fun _ => ?_) (fun h => absurd h (by decide)) | refine And.intro (fun h => absurd h (by decide)) (fun _ => ?_) | fail); conv => whnf) | (refine And.intro (fun _ => ?_) (fun _ => ?_) <;> conv => whnf) | fail)
  all_goals refine ⟨[], ?_⟩
  repeat (any_goals (first | exact True.intro | exact rfl | with_reducible_and_instances rfl | exact (by kernel_rfl) | refine And.intro ?_ ?_))
  all_goals conv => whnf
end Go.Proofs.YtbjmdnemeidpjaaGreat
/- Cells as rows of 72 words. -/
namespace Go.Proofs.YtbjmdnemeidpjaaGreat
set_option linter.unusedSimpArgs false
set_option linter.unusedVariables false
open Go.RowKit
set_option maxRecDepth 100000
abbrev uZ (z : Int) : D := .v (.int .u64 z)
def cR (c : Cel) : List D := iD c.n :: iD (hiZ c.s) :: uZ (loZ c.s) :: iD c.mn :: iD c.mx :: iD c.ce :: iD c.po :: hR c.h
abbrev cD (c : Cel) : D := .agg (cR c)
theorem cR_len {c : Cel} (h : c.h.length = 65) : (cR c).length = 72 := by
  show (hR c.h).length + 7 = 72
  rw [hR_len]; omega
theorem sC : (tiOf Tryz.prog 41).size = 72 := by kernel_rfl
theorem zeC : List.map D.v (tiOf Tryz.prog 41).zero = cR zC := by kernel_rfl
theorem sF : (tiOf Tryz.prog 49).size = 72 := by kernel_rfl
theorem zeF : List.map D.v (tiOf Tryz.prog 49).zero = cR zC := by kernel_rfl
theorem whole_cell {s : Nat} {c : Cel} (hs : s = 72) (hl : c.h.length = 65) : ((cR c).drop 0).take s = cR c := by
  rw [List.drop_zero, List.take_of_length_le (by rw [cR_len hl]; omega)]
theorem clen {s : Nat} {c : Cel} (hs : s = 72) (hl : c.h.length = 65) : (cR c).length = s := by rw [cR_len hl]; omega
theorem sum_cell {n s mn mx ce po : Int} {h : List Int} {k : Nat} (hs : k = 2) : ((cR ⟨n, s, mn, mx, ce, po, h⟩).drop 1).take k = [iD (hiZ s), uZ (loZ s)] := by subst hs; rfl
theorem s25 : (tiOf Tryz.prog 37).size = 2 := by kernel_rfl
theorem hist_cell {s : Nat} {c : Cel} (hs : s = 65) (hl : c.h.length = 65) : ((cR c).drop 7).take s = hR c.h := by
  show (hR c.h).take s = _
  exact hR_take hs hl
theorem cell_sets {c d : Cel} (hc : c.h.length = 65) (hd : d.h.length = 65) : sets (cR c) 0 (cR d) = cR d := by
  rw [sets_eq _ _ _ (by rw [cR_len hc, cR_len hd]; omega), List.drop_of_length_le (by rw [cR_len hc, cR_len hd]; omega)]
  simp
theorem cell_fit {c d : Cel} (hc : c.h.length = 65) (hd : d.h.length = 65) : 0 + (cR c).length ≤ (cR d).length := by rw [cR_len hc, cR_len hd]; omega
theorem fitC {c : Cel} (h : c.h.length = 65) : 0 + (cR c).length ≤ (List.map D.v (tiOf Tryz.prog 41).zero).length := by rw [zeC]; exact cell_fit h rfl
theorem setC {c : Cel} (h : c.h.length = 65) : sets (List.map D.v (tiOf Tryz.prog 41).zero) 0 (cR c) = cR c := by rw [zeC]; exact cell_sets rfl h
theorem setzC : sets (List.map D.v (tiOf Tryz.prog 41).zero) 0 (List.map D.v (tiOf Tryz.prog 41).zero) = cR zC := by rw [zeC]; exact cell_sets rfl rfl
theorem fitzC : 0 + (List.map D.v (tiOf Tryz.prog 41).zero).length ≤ (List.map D.v (tiOf Tryz.prog 41).zero).length := by omega
theorem fitF {c : Cel} (h : c.h.length = 65) : 0 + (cR c).length ≤ (List.map D.v (tiOf Tryz.prog 49).zero).length := by rw [zeF]; exact cell_fit h rfl
theorem setF {c : Cel} (h : c.h.length = 65) : sets (List.map D.v (tiOf Tryz.prog 49).zero) 0 (cR c) = cR c := by rw [zeF]; exact cell_sets rfl h
theorem setzF : sets (List.map D.v (tiOf Tryz.prog 49).zero) 0 (List.map D.v (tiOf Tryz.prog 49).zero) = cR zC := by rw [zeF]; exact cell_sets rfl rfl
theorem fitzF : 0 + (List.map D.v (tiOf Tryz.prog 49).zero).length ≤ (List.map D.v (tiOf Tryz.prog 49).zero).length := by omega
theorem fit1 {c : Cel} {k : Nat} {x : D} (h : c.h.length = 65) (hk : k ≤ 71) : k + [x].length ≤ (cR c).length := by
  rw [cR_len h, List.length_singleton]; omega
theorem at_hi {n s mn mx ce po : Int} {h : List Int} : List.drop (0 + 1) (cR ⟨n, s, mn, mx, ce, po, h⟩) = iD (hiZ s) :: List.drop 2 (cR ⟨n, s, mn, mx, ce, po, h⟩) := rfl
theorem at_lo {n s mn mx ce po : Int} {h : List Int} : List.drop (0 + 2) (cR ⟨n, s, mn, mx, ce, po, h⟩) = uZ (loZ s) :: List.drop 3 (cR ⟨n, s, mn, mx, ce, po, h⟩) := rfl
theorem whole_z {s : Nat} (hs : s = 72) : ((cR zC).drop 0).take s = cR zC := whole_cell hs rfl
theorem clenz {s : Nat} (hs : s = 72) : (cR zC).length = s := clen hs rfl
theorem set_n {n s mn mx ce po : Int} {h : List Int} (x : Int) : sets (cR ⟨n, s, mn, mx, ce, po, h⟩) 0 [iD x] = cR ⟨x, s, mn, mx, ce, po, h⟩ := rfl
theorem set_s {n s mn mx ce po : Int} {h : List Int} (x : Int) : sets (cR ⟨n, s, mn, mx, ce, po, h⟩) (0 + 1) [iD (hiZ x), uZ (loZ x)] = cR ⟨n, x, mn, mx, ce, po, h⟩ := rfl
theorem set_mn {n s mn mx ce po : Int} {h : List Int} (x : Int) : sets (cR ⟨n, s, mn, mx, ce, po, h⟩) (0 + 3) [iD x] = cR ⟨n, s, x, mx, ce, po, h⟩ := rfl
theorem set_mx {n s mn mx ce po : Int} {h : List Int} (x : Int) : sets (cR ⟨n, s, mn, mx, ce, po, h⟩) (0 + 4) [iD x] = cR ⟨n, s, mn, x, ce, po, h⟩ := rfl
theorem set_ce {n s mn mx ce po : Int} {h : List Int} (x : Int) : sets (cR ⟨n, s, mn, mx, ce, po, h⟩) (0 + 5) [iD x] = cR ⟨n, s, mn, mx, x, po, h⟩ := rfl
theorem set_po {n s mn mx ce po : Int} {h : List Int} (x : Int) : sets (cR ⟨n, s, mn, mx, ce, po, h⟩) (0 + 6) [iD x] = cR ⟨n, s, mn, mx, ce, x, h⟩ := rfl
theorem set_hh {n s mn mx ce po : Int} {h : List Int} {h' : List Int} (hc : h.length = 65) (hh : h'.length = 65) : sets (cR ⟨n, s, mn, mx, ce, po, h⟩) (0 + 7) (hR h') = cR ⟨n, s, mn, mx, ce, po, h'⟩ := by
  have hc : (Cel.mk n s mn mx ce po h).h.length = 65 := hc
  rw [sets_eq _ _ _ (by rw [cR_len hc, hR_len]; omega), List.drop_of_length_le (by rw [cR_len hc, hR_len]; omega)]
  simp [cR]
theorem drop_id {n : Nat} {l : List D} : List.drop n l = List.drop n l := rfl
theorem at_n {n s mn mx ce po : Int} {h : List Int} : List.drop 0 (cR ⟨n, s, mn, mx, ce, po, h⟩) = iD n :: List.drop 1 (cR ⟨n, s, mn, mx, ce, po, h⟩) := rfl
theorem at_mn {n s mn mx ce po : Int} {h : List Int} : List.drop (0 + 3) (cR ⟨n, s, mn, mx, ce, po, h⟩) = iD mn :: List.drop 4 (cR ⟨n, s, mn, mx, ce, po, h⟩) := rfl
theorem at_mx {n s mn mx ce po : Int} {h : List Int} : List.drop (0 + 4) (cR ⟨n, s, mn, mx, ce, po, h⟩) = iD mx :: List.drop 5 (cR ⟨n, s, mn, mx, ce, po, h⟩) := rfl
theorem at_ce {n s mn mx ce po : Int} {h : List Int} : List.drop (0 + 5) (cR ⟨n, s, mn, mx, ce, po, h⟩) = iD ce :: List.drop 6 (cR ⟨n, s, mn, mx, ce, po, h⟩) := rfl
theorem at_po {n s mn mx ce po : Int} {h : List Int} : List.drop (0 + 6) (cR ⟨n, s, mn, mx, ce, po, h⟩) = iD po :: List.drop 7 (cR ⟨n, s, mn, mx, ce, po, h⟩) := rfl
theorem note_sat (c : Cel) (b : Bool) (hc : CelOK c) (hS : Sat Tryz.prog 36 [.d (cD c)] [] (bA (rightC c)) []) : Sat Tryz.prog 34 [.d (cD c), bA b] [] (.tup [.d (cD (noteC c b).1), iA (noteC c b).2]) [] := by
  have hl := hc.hl
  have h1 := hc.ce
  have h2 := hc.po
  refine sat_of_vc (T := tiOf Tryz.prog) (E := E0) Tryz.func34 rfl rfl hE0 hm0 rfl ?_
  conv => whnf
  iterate 6
    repeat' (first | exact True.intro | ((first | refine ⟨_, drop_id, ?_⟩ | refine ⟨_, _, at_n, ?_⟩ | refine ⟨_, _, at_hi, ?_⟩ | refine ⟨_, _, at_lo, ?_⟩ | refine ⟨_, _, at_mn, ?_⟩ | refine ⟨_, _, at_mx, ?_⟩ | refine ⟨_, _, at_ce, ?_⟩ | refine ⟨_, _, at_po, ?_⟩ | refine ⟨_, whole_z sC, clenz sC, ?_⟩ | refine ⟨_, setzC, ?_⟩ | refine And.intro (clenz sC) ?_ | refine And.intro fitzC ?_ | refine ⟨_, whole_cell sC hl, clen sC hl, ?_⟩ | refine And.intro (clen sC hl) ?_ | refine And.intro (fitC hl) ?_ | refine ⟨_, setC hl, ?_⟩ | refine ⟨_, whole_z sF, clenz sF, ?_⟩ | refine ⟨_, setzF, ?_⟩ | refine And.intro (clenz sF) ?_ | refine And.intro fitzF ?_ | refine ⟨_, whole_cell sF hl, clen sF hl, ?_⟩ | refine And.intro (clen sF hl) ?_ | refine And.intro (fitF hl) ?_ | refine ⟨_, setF hl, ?_⟩ | refine And.intro (fit1 hl (by decide)) ?_ | refine And.intro (fit1 rfl (by decide)) ?_ | refine ⟨_, sum_cell s25, rfl, ?_⟩ | refine ⟨_, set_n _, ?_⟩ | refine ⟨_, set_mn _, ?_⟩ | refine ⟨_, set_mx _, ?_⟩ | refine ⟨_, set_ce _, ?_⟩ | refine ⟨_, set_po _, ?_⟩ | refine ⟨_, set_s _, ?_⟩ | refine ⟨_, set_hi _, ?_⟩ | refine ⟨_, set_lo _, ?_⟩ | refine And.intro (fun _ => ?_) tf | refine And.intro ft (fun _ => ?_) | refine And.intro (by kernel_rfl) ?_ | refine And.intro (by decide) ?_ | refine And.intro (fun _ => ?_) (fun h => absurd h (by decide)) | refine And.intro (fun h => absurd h (by decide)) (fun _ => ?_) | refine ⟨_, _, hS.pu rfl rfl, ?_⟩ | fail); conv => whnf) | (refine And.intro (fun _ => ?_) (fun _ => ?_) <;> conv => whnf) | fail)
    all_goals try (refine Or.inl ?_; conv => whnf)
  · have hr : rightC c = false := (by (try simp only [decide_eq_true_eq, decide_eq_false_iff_not, Bool.not_eq_true', Bool.not_eq_false', Bool.not_eq_true, Bool.not_eq_false, beq_iff_eq, bne_iff_ne, beq_eq_false_iff_ne, bne_eq_false_iff_eq, ne_eq, Decidable.not_not, Int.natCast_eq_zero] at *); first | omega | assumption | (simp_all; done) | (simp_all; omega))
    have e : noteC c b = (zC, 10) := by unfold noteC; rw [if_pos hr]
    rw [e]
    all_goals refine ⟨[], ?_⟩
    repeat (any_goals (first | exact True.intro | exact rfl | with_reducible_and_instances rfl | exact (by kernel_rfl) | refine And.intro ?_ ?_))
    all_goals conv => whnf
  · have hr : rightC c = true := (by (try simp only [decide_eq_true_eq, decide_eq_false_iff_not, Bool.not_eq_true', Bool.not_eq_false', Bool.not_eq_true, Bool.not_eq_false, beq_iff_eq, bne_iff_ne, beq_eq_false_iff_ne, bne_eq_false_iff_eq, ne_eq, Decidable.not_not, Int.natCast_eq_zero] at *); first | omega | assumption | (simp_all; done) | (simp_all; omega))
    subst b
    have e : noteC c true = (zC, 12) := by unfold noteC big; rw [if_neg (by rw [hr]; simp), if_pos (by simp at *; assumption)]
    rw [e]
    all_goals refine ⟨[], ?_⟩
    repeat (any_goals (first | exact True.intro | exact rfl | with_reducible_and_instances rfl | exact (by kernel_rfl) | refine And.intro ?_ ?_))
    all_goals conv => whnf
  · have hr : rightC c = true := (by (try simp only [decide_eq_true_eq, decide_eq_false_iff_not, Bool.not_eq_true', Bool.not_eq_false', Bool.not_eq_true, Bool.not_eq_false, beq_iff_eq, bne_iff_ne, beq_eq_false_iff_ne, bne_eq_false_iff_eq, ne_eq, Decidable.not_not, Int.natCast_eq_zero] at *); first | omega | assumption | (simp_all; done) | (simp_all; omega))
    subst b
    have hb : c.ce ≠ 9223372036854775807 := by simp at *; assumption
    have e : noteC c true = (⟨c.n, c.s, c.mn, c.mx, c.ce + 1, c.po, c.h⟩, 0) := by unfold noteC big; rw [if_neg (by rw [hr]; simp), if_neg (by simpa using hb)]; rfl
    have w : IntKind.i64.wrap (c.ce + 1) = c.ce + 1 := wi (by unfold in64 at h1; have := (right_iff.1 hr).ce; omega) (by unfold in64 at h1; omega)
    rw [e, w]
    all_goals refine ⟨[], ?_⟩
    repeat (any_goals (first | exact True.intro | exact rfl | with_reducible_and_instances rfl | exact (by kernel_rfl) | refine And.intro ?_ ?_))
    all_goals conv => whnf
  · have hr : rightC c = true := (by (try simp only [decide_eq_true_eq, decide_eq_false_iff_not, Bool.not_eq_true', Bool.not_eq_false', Bool.not_eq_true, Bool.not_eq_false, beq_iff_eq, bne_iff_ne, beq_eq_false_iff_ne, bne_eq_false_iff_eq, ne_eq, Decidable.not_not, Int.natCast_eq_zero] at *); first | omega | assumption | (simp_all; done) | (simp_all; omega))
    subst b
    have e : noteC c false = (zC, 12) := by unfold noteC big; rw [if_neg (by rw [hr]; simp), if_pos (by simp at *; assumption)]
    rw [e]
    all_goals refine ⟨[], ?_⟩
    repeat (any_goals (first | exact True.intro | exact rfl | with_reducible_and_instances rfl | exact (by kernel_rfl) | refine And.intro ?_ ?_))
    all_goals conv => whnf
  · have hr : rightC c = true := (by (try simp only [decide_eq_true_eq, decide_eq_false_iff_not, Bool.not_eq_true', Bool.not_eq_false', Bool.not_eq_true, Bool.not_eq_false, beq_iff_eq, bne_iff_ne, beq_eq_false_iff_ne, bne_eq_false_iff_eq, ne_eq, Decidable.not_not, Int.natCast_eq_zero] at *); first | omega | assumption | (simp_all; done) | (simp_all; omega))
    subst b
    have hb : c.po ≠ 9223372036854775807 := by simp at *; assumption
    have e : noteC c false = (⟨c.n, c.s, c.mn, c.mx, c.ce, c.po + 1, c.h⟩, 0) := by unfold noteC big; rw [if_neg (by rw [hr]; simp), if_neg (by simpa using hb)]; rfl
    have w : IntKind.i64.wrap (c.po + 1) = c.po + 1 := wi (by unfold in64 at h2; have := (right_iff.1 hr).po; omega) (by unfold in64 at h2; omega)
    rw [e, w]
    all_goals refine ⟨[], ?_⟩
    repeat (any_goals (first | exact True.intro | exact rfl | with_reducible_and_instances rfl | exact (by kernel_rfl) | refine And.intro ?_ ?_))
    all_goals conv => whnf
end Go.Proofs.YtbjmdnemeidpjaaGreat
/- safe.Add. -/
namespace Go.Proofs.YtbjmdnemeidpjaaGreat
open Go.RowKit
set_option linter.unusedVariables false
set_option linter.unusedSimpArgs false
theorem toInt_i64 (x : BitVec 64) : IntKind.i64.wrap (x.toNat : Int) = x.toInt := by
  have h := x.isLt
  rw [IntKind.wrap_i64, BitVec.toInt_eq_toNat_cond]
  split <;> omega
theorem xor_toInt (a b : Int) : bits .xor .i64 a b = (BitVec.ofInt 64 a ^^^ BitVec.ofInt 64 b).toInt := by
  rw [← toInt_i64]; rfl
theorem and_toInt (a b : Int) : bits .and .i64 a b = (BitVec.ofInt 64 a &&& BitVec.ofInt 64 b).toInt := by
  rw [← toInt_i64]; rfl
theorem msb_in (a : Int) (h1 : -9223372036854775808 ≤ a) (h2 : a ≤ 9223372036854775807) : (BitVec.ofInt 64 a).msb = decide (a < 0) := by
  rw [BitVec.msb_eq_toInt, BitVec.toInt_ofInt]
  have : a.bmod (2 ^ 64) = a := by
    unfold Int.bmod
    simp only []
    split <;> omega
  rw [this]
theorem over_sign (a b s : Int) (a1 : -9223372036854775808 ≤ a) (a2 : a ≤ 9223372036854775807) (b1 : -9223372036854775808 ≤ b) (b2 : b ≤ 9223372036854775807) (s1 : -9223372036854775808 ≤ s) (s2 : s ≤ 9223372036854775807) :
    decide (bits .and .i64 (bits .xor .i64 a s) (bits .xor .i64 b s) < 0) = ((decide (a < 0) ^^ decide (s < 0)) && (decide (b < 0) ^^ decide (s < 0))) := by
  rw [and_toInt, ← BitVec.msb_eq_toInt, BitVec.msb_and, xor_toInt, xor_toInt, BitVec.ofInt_toInt, BitVec.ofInt_toInt, BitVec.msb_xor, BitVec.msb_xor, msb_in a a1 a2, msb_in b b1 b2, msb_in s s1 s2]
theorem over_add (a b : Int) (a1 : -9223372036854775808 ≤ a) (a2 : a ≤ 9223372036854775807) (b1 : -9223372036854775808 ≤ b) (b2 : b ≤ 9223372036854775807) :
    decide (bits .and .i64 (bits .xor .i64 a (wrap64 (a + b))) (bits .xor .i64 b (wrap64 (a + b))) < 0) = decide (a + b < -9223372036854775808 ∨ 9223372036854775807 < a + b) := by
  have hw : wrap64 (a + b) = (a + b + 9223372036854775808) % 18446744073709551616 - 9223372036854775808 := by unfold wrap64; omega
  generalize wrap64 (a + b) = s at *
  rw [over_sign a b s a1 a2 b1 b2 (by omega) (by omega)]
  by_cases h1 : a < 0 <;> by_cases h2 : b < 0 <;> by_cases h3 : s < 0 <;> simp [h1, h2, h3] <;> omega
def addR (a b : Int) : Int × Nat := if a + b < -9223372036854775808 ∨ 9223372036854775807 < a + b then (0, 12) else (a + b, 0)
set_option maxRecDepth 100000 in
theorem safeAdd_any (a b : Int) (w : World) (a1 : -9223372036854775808 ≤ a) (a2 : a ≤ 9223372036854775807) (b1 : -9223372036854775808 ≤ b) (b2 : b ≤ 9223372036854775807) :
    Calls Tryz.prog 51 #[.int .i64 a, .int .i64 b] w fun e w' => e = .returned (.tuple #[.int .i64 (addR a b).1, .int .i64 (addR a b).2]) ∧ w = w' := by
  have HO := over_add a b a1 a2 b1 b2
  have HR : Hid (addR a b = if a + b < -9223372036854775808 ∨ 9223372036854775807 < a + b then (0, 12) else (a + b, 0)) := hide rfl
  generalize addR a b = R at *
  by_cases c : a + b < -9223372036854775808 ∨ 9223372036854775807 < a + b
  · rw [decide_eq_true c] at HO
    rw [if_pos c] at HR
    clear c
    go_enter Tryz.func51, Tryz.ntmps51
    go_wp2
    go_ret2
    exact ⟨by rw [HR.out]; rfl, rfl⟩
  · rw [decide_eq_false c] at HO
    rw [if_neg c] at HR
    have hw : wrap64 (a + b) = a + b := IntWalk.wrap64_in _ (by constructor <;> omega)
    have HW := hide hw
    clear c hw
    go_enter Tryz.func51, Tryz.ntmps51
    go_wp2
    go_ret2
    refine ⟨?_, rfl⟩
    rw [HR.out]
    show Ending.returned (.tuple #[.int .i64 (wrap64 (a + b)), .int .i64 0]) = _
    rw [HW.out]
    rfl
end Go.Proofs.YtbjmdnemeidpjaaGreat
/- wide.Add; bits.Add64 as an operation; the sums of cells (192 bits). -/
namespace Go.Proofs.YtbjmdnemeidpjaaGreat
set_option linter.unusedSimpArgs false
set_option linter.unusedVariables false
open Go.RowKit
set_option maxRecDepth 100000
abbrev uN (z : Int) : AV := .d (.v (.int .u64 z))
theorem add64_runC (x y c : Int) (hx : 0 ≤ x) (hy : 0 ≤ y) (hc : 0 ≤ c) (hc1 : c ≤ 1) (w : World) : (callFunc 58 #[.int .u64 x, .int .u64 y, .int .u64 c]).run Tryz.prog w =
    .ok (.value (.tuple #[.int .u64 ((x + y + c) % 18446744073709551616), .int .u64 ((x + y + c) / 18446744073709551616)])) w := by
  rw [run_callFunc_extern Tryz.func58 (by kernel_rfl) (by kernel_rfl) (by kernel_rfl) (e := add64Entry) (by kernel_rfl), run_add64 x y c hx hy (by omega) (by omega)]
  simp only [Result.andThen]
theorem add64_does {L : List AObj} {ty n : Nat} (x y c : Int) (hx : 0 ≤ x) (hy : 0 ≤ y) (hc : 0 ≤ c) (hc1 : c ≤ 1) {a b d : Operand} {ats : Array TypeId} :
    Does Tryz.prog (.call { callee := .value (.func 58), args := #[a, b, d], argTypes := ats }) ty L n [.fn (.func 58) [] [], uN x, uN y, uN c] e0 (.tup [uN ((x + y + c) % 18446744073709551616), uN ((x + y + c) / 18446744073709551616)]) :=
  does_val fun o w F ρ ev ho _ hx' => by
    have hops : (Op.operands (.call { callee := .value (.func 58), args := #[a, b, d], argTypes := ats })).toList = .func 58 :: [a, b, d] := by simp [Op.operands, Call.operands]
    rw [hops] at hx'
    simp only [List.map_cons, List.map_nil] at hx'
    generalize hvf : ev (.func 58) = vf at hx'
    cases hx' with | cons hf h =>
    cases hf with | fn hfirst hcaps =>
    cases hfirst
    cases hcaps
    cases h with | cons h1 h =>
    cases h with | cons h2 h =>
    cases h with | cons h3 h =>
    have e1 := h1.v_out
    have e2 := h2.v_out
    have e3 := h3.v_out
    refine ⟨_, ?_, .tup (.cons (.d (.v _)) (.cons (.d (.v _)) .nil))⟩
    have := add64_runC x y c hx hy hc hc1 w
    simp [execOp, ho, resolve, hvf, Deferred.ofValue, invoke, e1, e2, e3]
    exact this
theorem wadd_plain (A B : Int) (hA : in128 A) (hB : in128 B) : hiZ (A + B) = hiZ A + hiZ B + (loZ A + loZ B) / word ∧ loZ (A + B) = (loZ A + loZ B) % word ∧
    (decide (bits .and .i64 (bits .xor .i64 (hiZ A) (wrap64 (hiZ (A + B)))) (bits .xor .i64 (hiZ B) (wrap64 (hiZ (A + B)))) < 0) = true ↔ ¬ in128 (A + B)) := by
  have e1 : hiZ (A + B) = hiZ A + hiZ B + (loZ A + loZ B) / word := by unfold hiZ loZ word; omega
  have e2 : loZ (A + B) = (loZ A + loZ B) % word := by unfold loZ word; omega
  refine ⟨e1, e2, ?_⟩
  have o1 : 0 ≤ (loZ A + loZ B) / word ∧ (loZ A + loZ B) / word ≤ 1 := by unfold loZ word; omega
  unfold in128 at *
  have hs : in64 (wrap64 (hiZ (A + B))) := by unfold in64 wrap64; omega
  have hw : wrap64 (hiZ (A + B)) = (hiZ (A + B) + 9223372036854775808) % 18446744073709551616 - 9223372036854775808 := by unfold wrap64; omega
  rw [over_sign _ _ _ hA.1 hA.2 hB.1 hB.2 hs.1 hs.2]
  generalize wrap64 (hiZ (A + B)) = s at *
  generalize hiZ (A + B) = z at *
  generalize hiZ A = a at *
  generalize hiZ B = b at *
  generalize (loZ A + loZ B) / word = o at *
  unfold in64 at *
  by_cases q1 : a < 0 <;> by_cases q2 : b < 0 <;> by_cases q3 : s < 0 <;> simp [q1, q2, q3] <;> omega
theorem wadd_sat (A B : Int) (hA : in128 A) (hB : in128 B) : Sat Tryz.prog 52 [.d (wD A), .d (wD B)] [] (if in128 (A + B) then .tup [.d (wD (A + B)), iA 0] else .tup [.d (wD 0), iA 12]) [] := by
  have a0 : 0 ≤ loZ A ∧ loZ A < word := by unfold loZ word; omega
  have b0 : 0 ≤ loZ B ∧ loZ B < word := by unfold loZ word; omega
  obtain ⟨e1, e2, e3⟩ := wadd_plain A B hA hB
  have e4 : IntKind.i64.wrap (IntKind.i64.wrap (hiZ A + hiZ B) + IntKind.i64.wrap ((loZ A + loZ B + 0) / 18446744073709551616)) = wrap64 (hiZ (A + B)) := by
    rw [e1, Int.add_zero]
    rw [IntKind.wrap_i64, IntKind.wrap_i64, IntKind.wrap_i64]
    unfold wrap64 word
    generalize (loZ A + loZ B) / 18446744073709551616 = o
    omega
  have e5 : (loZ A + loZ B + 0) % 18446744073709551616 = loZ (A + B) := by rw [e2, Int.add_zero]; rfl
  refine sat_of_vc (T := tiOf Tryz.prog) (E := E0) Tryz.func52 rfl rfl hE0 hm0 rfl ?_
  conv => whnf
  iterate 4
    repeat' (first | exact True.intro | ((first | refine And.intro (fun _ => ?_) tf | refine And.intro ft (fun _ => ?_) | refine And.intro (by kernel_rfl) ?_ | refine And.intro (by decide) ?_ | refine And.intro (fun _ => ?_) (fun h => absurd h (by decide)) | refine And.intro (fun h => absurd h (by decide)) (fun _ => ?_) | refine ⟨_, _, add64_does (loZ A) (loZ B) 0 a0.1 b0.1 (by omega) (by omega), ?_⟩ | fail); conv => whnf) | (refine And.intro (fun _ => ?_) (fun _ => ?_) <;> conv => whnf) | fail)
    all_goals try (refine Or.inl ?_; conv => whnf)
  · rename_i h
    have h : decide (bits .and .i64 (bits .xor .i64 (hiZ A) (IntKind.i64.wrap (IntKind.i64.wrap (hiZ A + hiZ B) + IntKind.i64.wrap ((loZ A + loZ B + 0) / 18446744073709551616)))) (bits .xor .i64 (hiZ B) (IntKind.i64.wrap (IntKind.i64.wrap (hiZ A + hiZ B) + IntKind.i64.wrap ((loZ A + loZ B + 0) / 18446744073709551616)))) < 0) = true := h
    rw [e4, e3] at h
    rw [if_neg h]
    all_goals refine ⟨[], ?_⟩
    repeat (any_goals (first | exact True.intro | exact rfl | with_reducible_and_instances rfl | exact (by kernel_rfl) | refine And.intro ?_ ?_))
    all_goals conv => whnf
  · rename_i h
    have h : decide (bits .and .i64 (bits .xor .i64 (hiZ A) (IntKind.i64.wrap (IntKind.i64.wrap (hiZ A + hiZ B) + IntKind.i64.wrap ((loZ A + loZ B + 0) / 18446744073709551616)))) (bits .xor .i64 (hiZ B) (IntKind.i64.wrap (IntKind.i64.wrap (hiZ A + hiZ B) + IntKind.i64.wrap ((loZ A + loZ B + 0) / 18446744073709551616)))) < 0) = false := h
    rw [e4, ← Bool.not_eq_true, e3] at h
    have hin : in128 (A + B) := Decidable.not_not.1 h
    have e6 : wrap64 (hiZ (A + B)) = hiZ (A + B) := by unfold in128 in64 at hin; unfold wrap64; omega
    rw [if_pos hin, e4, e5, e6]
    all_goals refine ⟨[], ?_⟩
    repeat (any_goals (first | exact True.intro | exact rfl | with_reducible_and_instances rfl | exact (by kernel_rfl) | refine And.intro ?_ ?_))
    all_goals conv => whnf
theorem sumS_succ {l : List Cel} {k : Nat} {c : Cel} (h : l[k]? = some c) : sumS (l.take (k + 1)) = sumS (l.take k) + c.s := by
  unfold sumS
  rw [List.map_take, List.map_take]
  exact sum_take_succ (by rw [List.getElem?_map, h]; rfl)
end Go.Proofs.YtbjmdnemeidpjaaGreat
/- total with its three closures; Right. -/
namespace Go.Proofs.YtbjmdnemeidpjaaGreat
set_option linter.unusedSimpArgs false
set_option linter.unusedVariables false
open Go.RowKit
set_option maxRecDepth 100000
theorem safeAdd_sat (a b : Int) (ha : in64 a) (hb : in64 b) : Sat Tryz.prog 51 [iA a, iA b] [] (.tup [iA (addR a b).1, iA (addR a b).2]) [] :=
  .of_same (by repeat constructor) (by repeat constructor) fun w => safeAdd_any a b w ha.1 ha.2 hb.1 hb.2
def sumBy (f : Cel → Int) (l : List Cel) : Int := (l.map f).sum
theorem sumBy_succ {f : Cel → Int} {l : List Cel} {k : Nat} {c : Cel} (h : l[k]? = some c) : sumBy f (l.take (k + 1)) = sumBy f (l.take k) + f c := by
  unfold sumBy
  rw [List.map_take, List.map_take]
  exact sum_take_succ (by rw [List.getElem?_map, h]; rfl)
theorem sumBy_nonneg {f : Cel → Int} : ∀ {l : List Cel}, (∀ c ∈ l, 0 ≤ f c) → 0 ≤ sumBy f l
  | [], _ => Int.le_refl _
  | c :: l, h => by
    have := sumBy_nonneg (l := l) fun d hd => h d (List.mem_cons_of_mem _ hd)
    have := h c (List.mem_cons_self ..)
    unfold sumBy at *
    rw [List.map_cons, List.sum_cons]; omega
theorem sumBy_take {f : Cel → Int} {l : List Cel} (h : ∀ c ∈ l, 0 ≤ f c) (k : Nat) : 0 ≤ sumBy f (l.take k) ∧ sumBy f (l.take k) ≤ sumBy f l := by
  refine ⟨sumBy_nonneg fun c hc => h c (List.mem_of_mem_take hc), ?_⟩
  have e : sumBy f l = sumBy f (l.take k) + sumBy f (l.drop k) := by
    unfold sumBy
    rw [← List.sum_append, ← List.map_append, List.take_append_drop]
  have := sumBy_nonneg (f := f) (l := l.drop k) fun c hc => h c (List.mem_of_mem_drop hc)
  omega
end Go.Proofs.YtbjmdnemeidpjaaGreat
