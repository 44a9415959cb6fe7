/- Parts Hr, CeA, CeB, HistG, Gap, HistF, Use, CodePlain, CodeA, CodeB, CodeC of the proof, put together. -/
import Derived.Test.YtbjmdnemeidpjaaM8
import Derived.RangeFuncNested
import Derived.RangeFuncBound
import Derived.RangeFuncCalls
import Derived.RangeFuncLeaves
import Derived.Shelf.Abstract
import Derived.Shelf.RegionOpen
import Derived.OwnWalkIn
import Derived.TacticsInMore
import Derived.LoopNIn
import Derived.LoopIn
import Derived.Test.YtbjmdnemeidpjaaProg
import Derived.Test.YtbjmdnemeidpjaaShelf
import Derived.Laws.BitsAllLaws
import Derived.WalkKit
/- The document's histograms: Of, right, Merge, Rank. -/
namespace Go.Proofs.Ytbjmdnemeidpjaa
set_option linter.unusedSimpArgs false
set_option linter.unusedVariables false
open Go.RowKit
set_option maxRecDepth 100000
theorem refBucket_sat (v : Int) (h : in64 v) : Sat Try.prog 36 [iA v] [] (iA (bkt v)) [] :=
  .of_same (.cons (.d (.v _)) .nil) (.d (.v _)) fun w => refBucket_any v w h.1 h.2
theorem hR_len (l : List Int) : (hR l).length = l.length := List.length_map _
theorem drop_row {l : List Int} {k : Nat} {x : Int} (hx : l[k]? = some x) : (hR l).drop (0 + k * 1) = iD x :: (hR l).drop (k + 1) := by
  obtain ⟨hk, rfl⟩ := List.getElem?_eq_some_iff.1 hx
  rw [Nat.zero_add, Nat.mul_one, List.drop_eq_getElem_cons (by rw [hR_len]; exact hk)]
  simp [hR]
theorem all_take {p : Int → Bool} {l : List Int} {k : Nat} {x : Int} (hx : l[k]? = some x) : (l.take (k + 1)).all p = ((l.take k).all p && p x) := all_take_succ hx
theorem refRight_sat (l : List Int) (hl : l.length = 65) : Sat Try.prog 106 [.d (hD l)] [] (bA (okH l)) [] := by
  refine sat_of_vc (T := tiOf Try.prog) (E := E0) Try.func106 rfl rfl hE0 hm0 rfl ?_
  conv => whnf
  repeat (any_goals (first
    | exact True.intro
    | (refine Or.inl ?_; conv => whnf)
    | (refine And.intro (fun _ => ?_) tf; conv => whnf)
    | (refine And.intro ft (fun _ => ?_); conv => whnf)
    | (refine And.intro (by kernel_rfl) ?_; conv => whnf)
    | (refine And.intro (by decide) ?_; conv => whnf)
    | (refine And.intro (fun _ => ?_) (fun h => absurd h (by decide)); conv => whnf)
    | (refine And.intro (fun h => absurd h (by decide)) (fun _ => ?_); conv => whnf)
    | (refine And.intro (fun _ => ?_) (fun _ => ?_) <;> conv => whnf)))
  refine ⟨Nat, fun k => k ≤ 65 ∧ okH (l.take k) = true, fun k => ([(3, iA k), (1, .ptr 0 0)], [.row (hR l)]), fun k => 65 - k, ⟨0, ⟨by omega, rfl⟩, ?_⟩, ?_⟩
  · all_goals refine ⟨[], ?_⟩
    repeat (any_goals (first | exact True.intro | exact rfl | with_reducible_and_instances rfl | exact (by kernel_rfl) | refine And.intro ?_ ?_))
    all_goals conv => whnf
  rintro k ⟨hk, ho⟩
  conv => whnf
  by_cases hlt : k < 65
  · have hx : l[k]? = some l[k] := List.getElem?_eq_getElem (by omega)
    generalize l[k] = x at hx
    have ha : okH (l.take (k + 1)) = decide (0 ≤ x) := by unfold okH at *; rw [all_take hx, ho, Bool.true_and]
    repeat (any_goals (first
      | exact True.intro
      | (refine ⟨k, rfl, hlt, ?_⟩; conv => whnf)
      | (refine ⟨_, rfl, _, _, drop_row hx, ?_⟩; conv => whnf)
      | (refine Or.inl ?_; conv => whnf)
      | (refine And.intro (fun _ => ?_) tf; conv => whnf)
      | (refine And.intro ft (fun _ => ?_); conv => whnf)
      | (refine And.intro (by kernel_rfl) ?_; conv => whnf)
      | (refine And.intro (by decide) ?_; conv => whnf)
      | (refine And.intro (fun _ => ?_) (fun h => absurd h (by decide)); conv => whnf)
      | (refine And.intro (fun h => absurd h (by decide)) (fun _ => ?_); conv => whnf)
      | (refine And.intro (fun _ => ?_) (fun _ => ?_) <;> conv => whnf)))
    all_goals try (exfalso; simp only [decide_eq_true_eq, decide_eq_false_iff_not, Bool.not_eq_true', Bool.not_eq_false', Bool.not_eq_true, Bool.not_eq_false, beq_iff_eq, bne_iff_ne, beq_eq_false_iff_ne, bne_eq_false_iff_eq, ne_eq, Decidable.not_not] at *; first | omega | contradiction | (simp_all; done) | (simp_all; omega))
    · have hr : okH l = false := by
        have h0 : x < 0 := (by (try simp only [decide_eq_true_eq, decide_eq_false_iff_not, Bool.not_eq_true', Bool.not_eq_false', Bool.not_eq_true, Bool.not_eq_false, beq_iff_eq, bne_iff_ne, beq_eq_false_iff_ne, bne_eq_false_iff_eq, ne_eq, Decidable.not_not, Int.natCast_eq_zero] at *); first | omega | assumption | (simp_all; done) | (simp_all; omega))
        rw [← List.take_append_drop (k + 1) l]
        unfold okH at *
        rw [List.all_append, ha, decide_eq_false (by omega)]; rfl
      rw [hr]
      all_goals refine ⟨[], ?_⟩
      repeat (any_goals (first | exact True.intro | exact rfl | with_reducible_and_instances rfl | exact (by kernel_rfl) | refine And.intro ?_ ?_))
      all_goals conv => whnf
    · have h0 : ¬ x < 0 := (by (try simp only [decide_eq_true_eq, decide_eq_false_iff_not, Bool.not_eq_true', Bool.not_eq_false', Bool.not_eq_true, Bool.not_eq_false, beq_iff_eq, bne_iff_ne, beq_eq_false_iff_ne, bne_eq_false_iff_eq, ne_eq, Decidable.not_not, Int.natCast_eq_zero] at *); first | omega | assumption | (simp_all; done) | (simp_all; omega))
      refine ⟨k + 1, ⟨hlt, by rw [ha]; exact decide_eq_true (by omega)⟩, show 65 - (k + 1) < 65 - k by omega, ?_⟩
      all_goals refine ⟨[], ?_⟩
      repeat (any_goals (first | exact True.intro | exact rfl | with_reducible_and_instances rfl | exact (by kernel_rfl) | refine And.intro ?_ ?_))
      all_goals conv => whnf
      exact wk1 (by omega)
  · have hke : k = 65 := by omega
    subst hke
    rw [List.take_of_length_le (by omega)] at ho
    rw [ho]
    repeat (any_goals (first
      | exact True.intro
      | (refine Or.inl ?_; conv => whnf)
      | (refine And.intro (fun _ => ?_) tf; conv => whnf)
      | (refine And.intro ft (fun _ => ?_); conv => whnf)
      | (refine And.intro (by kernel_rfl) ?_; conv => whnf)
      | (refine And.intro (by decide) ?_; conv => whnf)
      | (refine And.intro (fun _ => ?_) (fun h => absurd h (by decide)); conv => whnf)
      | (refine And.intro (fun h => absurd h (by decide)) (fun _ => ?_); conv => whnf)
      | (refine And.intro (fun _ => ?_) (fun _ => ?_) <;> conv => whnf)))
    all_goals try (exfalso; simp only [decide_eq_true_eq, decide_eq_false_iff_not, Bool.not_eq_true', Bool.not_eq_false', Bool.not_eq_true, Bool.not_eq_false, beq_iff_eq, bne_iff_ne, beq_eq_false_iff_ne, bne_eq_false_iff_eq, ne_eq, Decidable.not_not] at *; first | omega | contradiction | (simp_all; done) | (simp_all; omega))
    all_goals refine ⟨[], ?_⟩
    repeat (any_goals (first | exact True.intro | exact rfl | with_reducible_and_instances rfl | exact (by kernel_rfl) | refine And.intro ?_ ?_))
    all_goals conv => whnf
theorem sets_row {l : List Int} {k : Nat} (x : Int) (hk : k < l.length) : sets (hR l) (0 + k * 1) [iD x] = hR (l.set k x) := by
  rw [Nat.zero_add, Nat.mul_one]
  show (hR l).set k (iD x) = _
  unfold hR
  rw [List.map_set]
theorem s68 : (tiOf Try.prog 26).size = 65 := by kernel_rfl
theorem whole_row {s : Nat} {h : List Int} (hs : s = 65) (hl : h.length = 65) : ((hR h).drop 0).take s = hR h := by
  rw [List.drop_zero, List.take_of_length_le (by rw [hR_len]; omega)]
theorem whole_len {s : Nat} {h : List Int} (hs : s = 65) (hl : h.length = 65) : (hR h).length = s := by rw [hR_len]; omega
theorem rows_whole {l h : List Int} (hl : l.length = 65) (hh : h.length = 65) : sets (hR l) 0 (hR h) = hR h := by
  rw [sets_eq _ _ _ (by rw [hR_len, hR_len]; omega), List.drop_of_length_le (by rw [hR_len, hR_len]; omega)]
  simp
theorem sets_fit {l h : List Int} (hl : l.length = 65) (hh : h.length = 65) : 0 + (hR h).length ≤ (hR l).length := by rw [hR_len, hR_len]; omega
theorem z65_len : z65.length = 65 := rfl
theorem histL_small (l : List Int) {b : Nat} {y : Int} (h : (histL l)[b]? = some y) : 0 ≤ y ∧ y ≤ l.length := histL_mem l y (List.mem_of_getElem? h)
theorem histL_succ {l : List Int} {k : Nat} {x : Int} (hx : l[k]? = some x) : histL (l.take (k + 1)) = bump (histL (l.take k)) (bkt x) := by
  rw [List.take_add_one, hx]; exact histL_snoc _ _
theorem refOf_sat (l : List Int) (hl : ∀ z ∈ l, in64 z) (hn : l.length ≤ 1000000) : Sat Try.prog 31 [.d (lD l)] [] (.d (hD (histL l))) [] := by
  have hm : (l.map lR).length = l.length := List.length_map _
  refine sat_of_vc (T := tiOf Try.prog) (E := E0) Try.func31 rfl rfl hE0 hm0 rfl ?_
  conv => whnf
  repeat (any_goals (first
    | exact True.intro
    | (refine ⟨hR z65, by kernel_rfl, ?_⟩; conv => whnf)
    | (refine And.intro (by decide +kernel) ?_; conv => whnf)
    | (refine Or.inl ?_; conv => whnf)
    | (refine And.intro (fun _ => ?_) tf; conv => whnf)
    | (refine And.intro ft (fun _ => ?_); conv => whnf)
    | (refine And.intro (by kernel_rfl) ?_; conv => whnf)
    | (refine And.intro (by decide) ?_; conv => whnf)
    | (refine And.intro (fun _ => ?_) (fun h => absurd h (by decide)); conv => whnf)
    | (refine And.intro (fun h => absurd h (by decide)) (fun _ => ?_); conv => whnf)
    | (refine And.intro (fun _ => ?_) (fun _ => ?_) <;> conv => whnf)))
  refine ⟨Nat × List Int, fun y => y.1 ≤ l.length ∧ y.2 = histL (l.take y.1), fun y => ([(4, iA y.1), (3, .ptr 1 0), (2, .ptr 0 0), (0, .d (lD l))], [.row (hR z65), .row (hR y.2)]), fun y => l.length - y.1, ⟨(0, z65), ⟨Nat.zero_le _, rfl⟩, ?_⟩, ?_⟩
  · all_goals refine ⟨[], ?_⟩
    repeat (any_goals (first | exact True.intro | exact rfl | with_reducible_and_instances rfl | exact (by kernel_rfl) | refine And.intro ?_ ?_))
    all_goals conv => whnf
  rintro ⟨k, h⟩ ⟨(hk : k ≤ l.length), (hh : h = histL (l.take k))⟩
  have h65 : h.length = 65 := by rw [hh]; exact histL_len _
  conv => whnf
  by_cases hlt : k < l.length
  · have hx : l[k]? = some l[k] := List.getElem?_eq_getElem hlt
    have hz := hl _ (List.mem_of_getElem? hx)
    generalize l[k] = x at hx hz
    have hb := bkt_lt x hz.2
    have b1 := refBucket_sat x hz
    have hy : h[bkt x]? = some h[bkt x] := List.getElem?_eq_getElem (by omega)
    have hs := histL_succ hx
    rw [← hh] at hs
    have hsm : 0 ≤ h[bkt x] ∧ h[bkt x] ≤ (l.take k).length := histL_small (l.take k) (b := bkt x) (by rw [← hh]; exact hy)
    rw [List.length_take] at hsm
    have hbu : bump h (bkt x) = h.set (bkt x) (h[bkt x] + 1) := by unfold bump; rw [hy]; rfl
    generalize h[bkt x] = y at hy hsm hbu
    have hw : IntKind.i64.wrap (y + 1) = y + 1 := wi (by omega) (by omega)
    have hst : 0 + bkt x * 1 + 1 ≤ (hR h).length := by rw [hR_len]; omega
    have hse := sets_row (l := h) (k := bkt x) (y + 1) (by omega)
    rw [← hbu, ← hs] at hse
    rw [← hw] at hse
    repeat (any_goals (first
      | exact True.intro
      | (refine ⟨k, _, rfl, map_get hx, ?_⟩; conv => whnf)
      | (refine ⟨bkt x, rfl, hb, ?_⟩; conv => whnf)
      | (refine ⟨_, rfl, _, _, drop_row hy, ?_⟩; conv => whnf)
      | (refine And.intro hst ?_; conv => whnf)
      | (refine ⟨_, hse, ?_⟩; conv => whnf)
      | (refine Or.inl ?_; conv => whnf)
      | (refine And.intro (fun _ => ?_) tf; conv => whnf)
      | (refine And.intro ft (fun _ => ?_); conv => whnf)
      | (refine And.intro (by kernel_rfl) ?_; conv => whnf)
      | (refine And.intro (by decide) ?_; conv => whnf)
      | (refine And.intro (fun _ => ?_) (fun h => absurd h (by decide)); conv => whnf)
      | (refine And.intro (fun h => absurd h (by decide)) (fun _ => ?_); conv => whnf)
      | (refine And.intro (fun _ => ?_) (fun _ => ?_) <;> conv => whnf)
      | (refine ⟨_, _, b1.pu rfl rfl, ?_⟩; conv => whnf)))
    all_goals try (exfalso; simp only [decide_eq_true_eq, decide_eq_false_iff_not, Bool.not_eq_true', Bool.not_eq_false', Bool.not_eq_true, Bool.not_eq_false, beq_iff_eq, bne_iff_ne, beq_eq_false_iff_ne, bne_eq_false_iff_eq, ne_eq, Decidable.not_not] at *; first | omega | contradiction | (simp_all; done) | (simp_all; omega))
    refine ⟨(k + 1, histL (l.take (k + 1))), ⟨hlt, rfl⟩, show l.length - (k + 1) < l.length - k by omega, ?_⟩
    all_goals refine ⟨[], ?_⟩
    repeat (any_goals (first | exact True.intro | exact rfl | with_reducible_and_instances rfl | exact (by kernel_rfl) | refine And.intro ?_ ?_))
    all_goals conv => whnf
    exact wk1 (show k ≤ _ by omega)
  · have hke : k = l.length := by omega
    subst hke
    rw [List.take_length] at hh
    subst hh
    repeat (any_goals (first
      | exact True.intro
      | (refine And.intro (whole_len s68 h65) ?_; conv => whnf)
      | (refine ⟨_, whole_row s68 h65, whole_len s68 h65, ?_⟩; conv => whnf)
      | (refine And.intro (sets_fit z65_len h65) ?_; conv => whnf)
      | (refine ⟨_, rows_whole z65_len h65, ?_⟩; conv => whnf)
      | (refine ⟨_, rfl, ?_⟩; conv => whnf)
      | (refine Or.inl ?_; conv => whnf)
      | (refine And.intro (fun _ => ?_) tf; conv => whnf)
      | (refine And.intro ft (fun _ => ?_); conv => whnf)
      | (refine And.intro (by kernel_rfl) ?_; conv => whnf)
      | (refine And.intro (by decide) ?_; conv => whnf)
      | (refine And.intro (fun _ => ?_) (fun h => absurd h (by decide)); conv => whnf)
      | (refine And.intro (fun h => absurd h (by decide)) (fun _ => ?_); conv => whnf)
      | (refine And.intro (fun _ => ?_) (fun _ => ?_) <;> conv => whnf)))
    all_goals try (exfalso; simp only [decide_eq_true_eq, decide_eq_false_iff_not, Bool.not_eq_true', Bool.not_eq_false', Bool.not_eq_true, Bool.not_eq_false, beq_iff_eq, bne_iff_ne, beq_eq_false_iff_ne, bne_eq_false_iff_eq, ne_eq, Decidable.not_not] at *; first | omega | contradiction | (simp_all; done) | (simp_all; omega))
    all_goals refine ⟨[], ?_⟩
    repeat (any_goals (first | exact True.intro | exact rfl | with_reducible_and_instances rfl | exact (by kernel_rfl) | refine And.intro ?_ ?_))
    all_goals conv => whnf
def col (ls : List (List Int)) (k : Nat) : List Int := ls.map fun l => l[k]?.getD 0
theorem col_sum (ls : List (List Int)) (k : Nat) : (col ls k).sum = sumAt ls k := rfl
theorem col_succ {ls : List (List Int)} {i k : Nat} {l : List Int} (h : ls[i]? = some l) : col (ls.take (i + 1)) k = col (ls.take i) k ++ [l[k]?.getD 0] := by
  unfold col; rw [List.take_add_one, h]; simp
def partL (ls : List (List Int)) (k : Nat) : List Int := (List.range 65).map fun j => if j < k then sumAt ls j else 0
theorem partL_len (ls : List (List Int)) (k : Nat) : (partL ls k).length = 65 := by simp [partL]
theorem partL_set (ls : List (List Int)) {k : Nat} (hk : k < 65) : (partL ls k).set k (sumAt ls k) = partL ls (k + 1) := by
  apply List.ext_getElem?
  intro j
  unfold partL
  rw [List.getElem?_set]
  by_cases hj : j < 65
  · simp only [List.length_map, List.length_range, List.getElem?_map, List.getElem?_range hj, Option.map_some]
    by_cases e : k = j
    · subst e; simp [hk]
    · simp only [e, if_false]
      congr 1
      by_cases h : j < k
      · rw [if_pos h, if_pos (by omega)]
      · rw [if_neg h, if_neg (by omega)]
  · have : k ≠ j := by omega
    rw [if_neg this, List.getElem?_eq_none (by simp; omega), List.getElem?_eq_none (by simp; omega)]
theorem partL_zero (ls : List (List Int)) : partL ls 0 = z65 := by
  unfold partL z65
  apply List.ext_getElem?
  intro j
  rw [List.getElem?_map, List.getElem?_replicate]
  by_cases hj : j < 65
  · rw [List.getElem?_range hj]; simp [hj]
  · rw [List.getElem?_eq_none (by simp; omega)]; simp [hj]
theorem partL_all (ls : List (List Int)) : partL ls 65 = mergeL ls := by
  unfold partL mergeL
  apply List.map_congr_left
  intro j hj
  rw [if_pos (List.mem_range.1 hj)]
theorem hR_take {s : Nat} {h : List Int} (hs : s = 65) (hl : h.length = 65) : (hR h).take s = hR h := List.take_of_length_le (by rw [hR_len]; omega)
theorem merge_form {ls : List (List Int)} (h : ls.all okH = false) : mergeE ls = 10 ∧ mergeR ls = z65 := by
  have : mergeE ls = 10 := by unfold mergeE; rw [if_pos h]
  exact ⟨this, by unfold mergeR; rw [this]; rfl⟩
theorem merge_over {ls : List (List Int)} (h : ls.all okH = true) {k : Nat} (hk : k < 65) (hs : 9223372036854775807 < sumAt ls k) : mergeE ls = 12 ∧ mergeR ls = z65 := by
  have : mergeE ls = 12 := by
    unfold mergeE
    rw [if_neg (by simp [h]), if_pos (List.any_eq_true.2 ⟨k, List.mem_range.2 hk, decide_eq_true hs⟩)]
  exact ⟨this, by unfold mergeR; rw [this]; rfl⟩
theorem merge_fine {ls : List (List Int)} (h : ls.all okH = true) (hs : ∀ k, k < 65 → sumAt ls k ≤ 9223372036854775807) : mergeE ls = 0 ∧ mergeR ls = mergeL ls := by
  have : mergeE ls = 0 := by
    unfold mergeE
    rw [if_neg (by simp [h]), if_neg]
    intro q
    obtain ⟨k, h1, h2⟩ := List.any_eq_true.1 q
    have := hs k (List.mem_range.1 h1)
    have := of_decide_eq_true h2
    omega
  exact ⟨this, by unfold mergeR; rw [this]; rfl⟩
set_option maxHeartbeats 400000 in
theorem refMerge_sat (ls : List (List Int)) (hl : ∀ l ∈ ls, l.length = 65) (hx : ∀ l ∈ ls, ∀ z ∈ l, in64 z) (hn : ls.length ≤ 1000) : Sat Try.prog 89 [.d (.sl 65 (ls.map hR))] [] (.tup [.d (hD (mergeR ls)), iA (mergeE ls)]) [] := by
  have hm : (ls.map hR).length = ls.length := List.length_map _
  refine sat_of_vc (T := tiOf Try.prog) (E := E0) Try.func89 rfl rfl hE0 hm0 rfl ?_
  conv => whnf
  repeat (any_goals (first
    | exact True.intro
    | (refine ⟨hR z65, by kernel_rfl, ?_⟩; conv => whnf)
    | (refine And.intro (by decide +kernel) ?_; conv => whnf)
    | (refine And.intro (fun _ => ?_) tf; conv => whnf)
    | (refine And.intro ft (fun _ => ?_); conv => whnf)
    | (refine And.intro (by kernel_rfl) ?_; conv => whnf)
    | (refine And.intro (by decide) ?_; conv => whnf)
    | (refine And.intro (fun _ => ?_) (fun h => absurd h (by decide)); conv => whnf)
    | (refine And.intro (fun h => absurd h (by decide)) (fun _ => ?_); conv => whnf)
    | (refine And.intro (fun _ => ?_) (fun _ => ?_) <;> conv => whnf)))
  all_goals try (refine Or.inl ?_; conv => whnf)
  repeat (any_goals (first
    | exact True.intro
    | (refine ⟨hR z65, by kernel_rfl, ?_⟩; conv => whnf)
    | (refine And.intro (by decide +kernel) ?_; conv => whnf)
    | (refine And.intro (fun _ => ?_) tf; conv => whnf)
    | (refine And.intro ft (fun _ => ?_); conv => whnf)
    | (refine And.intro (by kernel_rfl) ?_; conv => whnf)
    | (refine And.intro (by decide) ?_; conv => whnf)
    | (refine And.intro (fun _ => ?_) (fun h => absurd h (by decide)); conv => whnf)
    | (refine And.intro (fun h => absurd h (by decide)) (fun _ => ?_); conv => whnf)
    | (refine And.intro (fun _ => ?_) (fun _ => ?_) <;> conv => whnf)))
  refine ⟨Nat, fun i => i ≤ ls.length ∧ (ls.take i).all okH = true, fun i => ([(5, iA i), (4, .ptr 1 0), (3, iA 0), (2, .ptr 0 0), (0, .d (.sl 65 (ls.map hR)))], [.row (hR z65), .row (hR z65)]), fun i => ls.length - i, ⟨0, ⟨Nat.zero_le _, rfl⟩, ?_⟩, ?_⟩
  · all_goals refine ⟨[], ?_⟩
    repeat (any_goals (first | exact True.intro | exact rfl | with_reducible_and_instances rfl | exact (by kernel_rfl) | refine And.intro ?_ ?_))
    all_goals conv => whnf
  rintro i ⟨hi, hok⟩
  conv => whnf
  by_cases hlt : i < ls.length
  · have hx1 : ls[i]? = some ls[i] := List.getElem?_eq_getElem hlt
    have hl1 := hl _ (List.mem_of_getElem? hx1)
    generalize ls[i] = l at hx1 hl1
    have r1 := refRight_sat l hl1
    have ha : (ls.take (i + 1)).all okH = okH l := by rw [List.take_add_one, hx1, List.all_append, hok]; simp
    repeat (any_goals (first
      | exact True.intro
      | (refine And.intro (whole_len s68 hl1) ?_; conv => whnf)
      | (refine ⟨i, _, rfl, map_get hx1, ?_⟩; conv => whnf)
      | (refine ⟨_, hR_take s68 hl1, whole_len s68 hl1, ?_⟩; conv => whnf)
      | (refine ⟨hR z65, by kernel_rfl, ?_⟩; conv => whnf)
      | (refine And.intro (sets_fit z65_len z65_len) ?_; conv => whnf)
      | (refine ⟨_, rows_whole z65_len z65_len, ?_⟩; conv => whnf)
      | (refine Or.inl ?_; conv => whnf)
      | (refine And.intro (fun _ => ?_) tf; conv => whnf)
      | (refine And.intro ft (fun _ => ?_); conv => whnf)
      | (refine And.intro (by kernel_rfl) ?_; conv => whnf)
      | (refine And.intro (by decide) ?_; conv => whnf)
      | (refine And.intro (fun _ => ?_) (fun h => absurd h (by decide)); conv => whnf)
      | (refine And.intro (fun h => absurd h (by decide)) (fun _ => ?_); conv => whnf)
      | (refine And.intro (fun _ => ?_) (fun _ => ?_) <;> conv => whnf)
      | (refine ⟨_, _, r1.pu rfl rfl, ?_⟩; conv => whnf)))
    all_goals try (exfalso; simp only [decide_eq_true_eq, decide_eq_false_iff_not, Bool.not_eq_true', Bool.not_eq_false', Bool.not_eq_true, Bool.not_eq_false, beq_iff_eq, bne_iff_ne, beq_eq_false_iff_ne, bne_eq_false_iff_eq, ne_eq, Decidable.not_not] at *; first | omega | contradiction | (simp_all; done) | (simp_all; omega))
    · have ho : okH l = false := by cases h : okH l <;> simp_all
      obtain ⟨e1, e2⟩ := merge_form (ls := ls) (by
        rw [← List.take_append_drop (i + 1) ls, List.all_append, ha, ho]; rfl)
      rw [e1, e2]
      all_goals refine ⟨[], ?_⟩
      repeat (any_goals (first | exact True.intro | exact rfl | with_reducible_and_instances rfl | exact (by kernel_rfl) | refine And.intro ?_ ?_))
      all_goals conv => whnf
    · have ho : okH l = true := by cases h : okH l <;> simp_all
      refine ⟨i + 1, ⟨hlt, by rw [ha]; exact ho⟩, show ls.length - (i + 1) < ls.length - i by omega, ?_⟩
      all_goals refine ⟨[], ?_⟩
      repeat (any_goals (first | exact True.intro | exact rfl | with_reducible_and_instances rfl | exact (by kernel_rfl) | refine And.intro ?_ ?_))
      all_goals conv => whnf
      exact wk1 (by omega)
  · have hie : i = ls.length := by omega
    subst hie
    rw [List.take_length] at hok
    repeat (any_goals (first
      | exact True.intro
      | (refine And.intro (fun _ => ?_) tf; conv => whnf)
      | (refine And.intro ft (fun _ => ?_); conv => whnf)
      | (refine And.intro (by kernel_rfl) ?_; conv => whnf)
      | (refine And.intro (by decide) ?_; conv => whnf)
      | (refine And.intro (fun _ => ?_) (fun h => absurd h (by decide)); conv => whnf)
      | (refine And.intro (fun h => absurd h (by decide)) (fun _ => ?_); conv => whnf)
      | (refine And.intro (fun _ => ?_) (fun _ => ?_) <;> conv => whnf)))
    all_goals try (refine Or.inl ?_; conv => whnf)
    repeat (any_goals (first
      | exact True.intro
      | (refine And.intro (fun _ => ?_) tf; conv => whnf)
      | (refine And.intro ft (fun _ => ?_); conv => whnf)
      | (refine And.intro (by kernel_rfl) ?_; conv => whnf)
      | (refine And.intro (by decide) ?_; conv => whnf)
      | (refine And.intro (fun _ => ?_) (fun h => absurd h (by decide)); conv => whnf)
      | (refine And.intro (fun h => absurd h (by decide)) (fun _ => ?_); conv => whnf)
      | (refine And.intro (fun _ => ?_) (fun _ => ?_) <;> conv => whnf)))
    all_goals try (exfalso; simp only [decide_eq_true_eq, decide_eq_false_iff_not, Bool.not_eq_true', Bool.not_eq_false', Bool.not_eq_true, Bool.not_eq_false, beq_iff_eq, bne_iff_ne, beq_eq_false_iff_ne, bne_eq_false_iff_eq, ne_eq, Decidable.not_not] at *; first | omega | contradiction | (simp_all; done) | (simp_all; omega))
    all_goals try (refine Or.inl ?_; conv => whnf)
    repeat (any_goals (first
      | exact True.intro
      | (refine And.intro (fun _ => ?_) tf; conv => whnf)
      | (refine And.intro ft (fun _ => ?_); conv => whnf)
      | (refine And.intro (by kernel_rfl) ?_; conv => whnf)
      | (refine And.intro (by decide) ?_; conv => whnf)
      | (refine And.intro (fun _ => ?_) (fun h => absurd h (by decide)); conv => whnf)
      | (refine And.intro (fun h => absurd h (by decide)) (fun _ => ?_); conv => whnf)
      | (refine And.intro (fun _ => ?_) (fun _ => ?_) <;> conv => whnf)))
    all_goals try (refine Or.inl ?_; conv => whnf)
    repeat (any_goals (first
      | exact True.intro
      | (refine And.intro (fun _ => ?_) tf; conv => whnf)
      | (refine And.intro ft (fun _ => ?_); conv => whnf)
      | (refine And.intro (by kernel_rfl) ?_; conv => whnf)
      | (refine And.intro (by decide) ?_; conv => whnf)
      | (refine And.intro (fun _ => ?_) (fun h => absurd h (by decide)); conv => whnf)
      | (refine And.intro (fun h => absurd h (by decide)) (fun _ => ?_); conv => whnf)
      | (refine And.intro (fun _ => ?_) (fun _ => ?_) <;> conv => whnf)))
    all_goals try (refine Or.inl ?_; conv => whnf)
    repeat (any_goals (first
      | exact True.intro
      | (refine And.intro (fun _ => ?_) tf; conv => whnf)
      | (refine And.intro ft (fun _ => ?_); conv => whnf)
      | (refine And.intro (by kernel_rfl) ?_; conv => whnf)
      | (refine And.intro (by decide) ?_; conv => whnf)
      | (refine And.intro (fun _ => ?_) (fun h => absurd h (by decide)); conv => whnf)
      | (refine And.intro (fun h => absurd h (by decide)) (fun _ => ?_); conv => whnf)
      | (refine And.intro (fun _ => ?_) (fun _ => ?_) <;> conv => whnf)))
    refine ⟨Nat × List Int, fun y => (y.1 ≤ 65 ∧ ∀ j, j < y.1 → sumAt ls j ≤ 9223372036854775807) ∧ y.2 = partL ls y.1, fun y => ([(6, iA y.1), (4, .ptr 1 0), (3, iA 0), (2, .ptr 0 0), (0, .d (.sl 65 (ls.map hR)))], [.row (hR z65), .row (hR y.2)]), fun y => 65 - y.1, ⟨(0, z65), ⟨⟨by omega, fun j (hj : j < 0) => by omega⟩, (partL_zero ls).symm⟩, ?_⟩, ?_⟩
    · all_goals refine ⟨[], ?_⟩
      repeat (any_goals (first | exact True.intro | exact rfl | with_reducible_and_instances rfl | exact (by kernel_rfl) | refine And.intro ?_ ?_))
      all_goals conv => whnf
    rintro ⟨k, p⟩ ⟨⟨(hk : k ≤ 65), (hsm : ∀ j, j < k → sumAt ls j ≤ 9223372036854775807)⟩, (hp : p = partL ls k)⟩
    have p65 : p.length = 65 := by rw [hp]; exact partL_len ls k
    conv => whnf
    by_cases hk6 : k < 65
    · have hcol : ∀ z ∈ col ls k, in64 z := by
        intro z hz
        obtain ⟨l, h1, rfl⟩ := List.mem_map.1 hz
        have h2 := hl l h1
        rw [List.getElem?_eq_getElem (by omega)]
        exact hx l h1 _ (List.getElem_mem _)
      have hcl : (col ls k).length = ls.length := List.length_map _
      have hnn := sumAt_nonneg ls k hok
      have su := sum_num (col ls k) hcol (by omega)
      rw [col_sum] at su
      repeat (any_goals (first
        | exact True.intro
        | (refine And.intro (fun _ => ?_) (fun h => absurd h (by simpa using hk6)); conv => whnf)
        | (refine And.intro (fun _ => ?_) tf; conv => whnf)
        | (refine And.intro ft (fun _ => ?_); conv => whnf)
        | (refine And.intro (by kernel_rfl) ?_; conv => whnf)
        | (refine And.intro (by decide) ?_; conv => whnf)
        | (refine And.intro (fun _ => ?_) (fun h => absurd h (by decide)); conv => whnf)
        | (refine And.intro (fun h => absurd h (by decide)) (fun _ => ?_); conv => whnf)
        | (refine And.intro (fun _ => ?_) (fun _ => ?_) <;> conv => whnf)))
      all_goals try (refine Or.inl ?_; conv => whnf)
      repeat (any_goals (first
        | exact True.intro
        | (refine And.intro (fun _ => ?_) (fun h => absurd h (by simpa using hk6)); conv => whnf)
        | (refine And.intro (fun _ => ?_) tf; conv => whnf)
        | (refine And.intro ft (fun _ => ?_); conv => whnf)
        | (refine And.intro (by kernel_rfl) ?_; conv => whnf)
        | (refine And.intro (by decide) ?_; conv => whnf)
        | (refine And.intro (fun _ => ?_) (fun h => absurd h (by decide)); conv => whnf)
        | (refine And.intro (fun h => absurd h (by decide)) (fun _ => ?_); conv => whnf)
        | (refine And.intro (fun _ => ?_) (fun _ => ?_) <;> conv => whnf)))
      all_goals try (refine Or.inl ?_; conv => whnf)
      repeat (any_goals (first
        | exact True.intro
        | (refine And.intro (fun _ => ?_) tf; conv => whnf)
        | (refine And.intro ft (fun _ => ?_); conv => whnf)
        | (refine And.intro (by kernel_rfl) ?_; conv => whnf)
        | (refine And.intro (by decide) ?_; conv => whnf)
        | (refine And.intro (fun _ => ?_) (fun h => absurd h (by decide)); conv => whnf)
        | (refine And.intro (fun h => absurd h (by decide)) (fun _ => ?_); conv => whnf)
        | (refine And.intro (fun _ => ?_) (fun _ => ?_) <;> conv => whnf)))
      all_goals try (refine Or.inl ?_; conv => whnf)
      repeat (any_goals (first
        | exact True.intro
        | (refine And.intro (fun _ => ?_) tf; conv => whnf)
        | (refine And.intro ft (fun _ => ?_); conv => whnf)
        | (refine And.intro (by kernel_rfl) ?_; conv => whnf)
        | (refine And.intro (by decide) ?_; conv => whnf)
        | (refine And.intro (fun _ => ?_) (fun h => absurd h (by decide)); conv => whnf)
        | (refine And.intro (fun h => absurd h (by decide)) (fun _ => ?_); conv => whnf)
        | (refine And.intro (fun _ => ?_) (fun _ => ?_) <;> conv => whnf)))
      all_goals try (exfalso; simp only [decide_eq_true_eq, decide_eq_false_iff_not, Bool.not_eq_true', Bool.not_eq_false', Bool.not_eq_true, Bool.not_eq_false, beq_iff_eq, bne_iff_ne, beq_eq_false_iff_ne, bne_eq_false_iff_eq, ne_eq, Decidable.not_not] at *; first | omega | contradiction | (simp_all; done) | (simp_all; omega))
      refine ⟨Nat, fun i => i ≤ ls.length, fun i => ([(8, iA i), (7, .own 2), (6, iA k), (4, .ptr 1 0), (3, iA 0), (2, .ptr 0 0), (0, .d (.sl 65 (ls.map hR)))], [.row (hR z65), .row (hR p), .sl 1 ((col (ls.take i) k).map lR)]), fun i => ls.length - i, ⟨0, Nat.zero_le _, ?_⟩, ?_⟩
      · all_goals refine ⟨[], ?_⟩
        repeat (any_goals (first | exact True.intro | exact rfl | with_reducible_and_instances rfl | exact (by kernel_rfl) | refine And.intro ?_ ?_))
        all_goals conv => whnf
      intro i hi
      have hi : i ≤ ls.length := hi
      have hci : ((col (ls.take i) k).map lR).length = i := by unfold col; simp; omega
      conv => whnf
      by_cases hlt : i < ls.length
      · have hx1 : ls[i]? = some ls[i] := List.getElem?_eq_getElem hlt
        have hl1 := hl _ (List.mem_of_getElem? hx1)
        generalize ls[i] = l at hx1 hl1
        have hx2 : l[k]? = some l[k] := List.getElem?_eq_getElem (by omega)
        have hc := col_succ (k := k) hx1
        rw [hx2, Option.getD_some] at hc
        generalize l[k] = x at hx2 hc
        have hdr : (hR l).drop (k * 1) = iD x :: (hR l).drop (k + 1) := by rw [← drop_row hx2, Nat.zero_add]
        repeat (any_goals (first
          | exact True.intro
          | (refine ⟨i, _, rfl, map_get hx1, ?_⟩; conv => whnf)
          | (refine ⟨k, _, rfl, hk6, hdr, ?_⟩; conv => whnf)
          | (refine Or.inl ?_; conv => whnf)
          | (refine And.intro (fun _ => ?_) tf; conv => whnf)
          | (refine And.intro ft (fun _ => ?_); conv => whnf)
          | (refine And.intro (by kernel_rfl) ?_; conv => whnf)
          | (refine And.intro (by decide) ?_; conv => whnf)
          | (refine And.intro (fun _ => ?_) (fun h => absurd h (by decide)); conv => whnf)
          | (refine And.intro (fun h => absurd h (by decide)) (fun _ => ?_); conv => whnf)
          | (refine And.intro (fun _ => ?_) (fun _ => ?_) <;> conv => whnf)
          | (refine ⟨_, _, ap 1 8 (by kernel_rfl) rfl rfl (by simp [hci]; omega), ?_⟩; conv => whnf)))
        all_goals try (exfalso; simp only [decide_eq_true_eq, decide_eq_false_iff_not, Bool.not_eq_true', Bool.not_eq_false', Bool.not_eq_true, Bool.not_eq_false, beq_iff_eq, bne_iff_ne, beq_eq_false_iff_ne, bne_eq_false_iff_eq, ne_eq, Decidable.not_not] at *; first | omega | contradiction | (simp_all; done) | (simp_all; omega))
        refine ⟨i + 1, hlt, show ls.length - (i + 1) < ls.length - i by omega, ?_⟩
        all_goals refine ⟨[(2, 4)], ?_⟩
        repeat (any_goals (first | exact True.intro | exact rfl | with_reducible_and_instances rfl | exact (by kernel_rfl) | refine And.intro ?_ ?_))
        all_goals conv => whnf
        · exact wk1 (by omega)
        · rw [hc, List.map_append]; rfl
      · have hie : i = ls.length := by omega
        subst hie
        rw [show col ls k = col (ls.take ls.length) k by rw [List.take_length]] at su
        repeat (any_goals (first
          | exact True.intro
          | (refine And.intro (fun _ => ?_) tf; conv => whnf)
          | (refine And.intro ft (fun _ => ?_); conv => whnf)
          | (refine And.intro (by kernel_rfl) ?_; conv => whnf)
          | (refine And.intro (by decide) ?_; conv => whnf)
          | (refine And.intro (fun _ => ?_) (fun h => absurd h (by decide)); conv => whnf)
          | (refine And.intro (fun h => absurd h (by decide)) (fun _ => ?_); conv => whnf)
          | (refine And.intro (fun _ => ?_) (fun _ => ?_) <;> conv => whnf)
          | (refine ⟨_, _, frz_a su rfl rfl, ?_⟩; conv => whnf)))
        all_goals try (exfalso; simp only [decide_eq_true_eq, decide_eq_false_iff_not, Bool.not_eq_true', Bool.not_eq_false', Bool.not_eq_true, Bool.not_eq_false, beq_iff_eq, bne_iff_ne, beq_eq_false_iff_ne, bne_eq_false_iff_eq, ne_eq, Decidable.not_not] at *; first | omega | contradiction | (simp_all; done) | (simp_all; omega))
        all_goals try (refine Or.inl ?_; conv => whnf)
        repeat (any_goals (first
          | exact True.intro
          | (refine And.intro (fun _ => ?_) tf; conv => whnf)
          | (refine And.intro ft (fun _ => ?_); conv => whnf)
          | (refine And.intro (by kernel_rfl) ?_; conv => whnf)
          | (refine And.intro (by decide) ?_; conv => whnf)
          | (refine And.intro (fun _ => ?_) (fun h => absurd h (by decide)); conv => whnf)
          | (refine And.intro (fun h => absurd h (by decide)) (fun _ => ?_); conv => whnf)
          | (refine And.intro (fun _ => ?_) (fun _ => ?_) <;> conv => whnf)
          | (refine ⟨_, _, frz_a su rfl rfl, ?_⟩; conv => whnf)))
        all_goals try (exfalso; simp only [decide_eq_true_eq, decide_eq_false_iff_not, Bool.not_eq_true', Bool.not_eq_false', Bool.not_eq_true, Bool.not_eq_false, beq_iff_eq, bne_iff_ne, beq_eq_false_iff_ne, bne_eq_false_iff_eq, ne_eq, Decidable.not_not] at *; first | omega | contradiction | (simp_all; done) | (simp_all; omega))
        all_goals try (refine Or.inl ?_; conv => whnf)
        repeat (any_goals (first
          | exact True.intro
          | (refine And.intro (fun _ => ?_) tf; conv => whnf)
          | (refine And.intro ft (fun _ => ?_); conv => whnf)
          | (refine And.intro (by kernel_rfl) ?_; conv => whnf)
          | (refine And.intro (by decide) ?_; conv => whnf)
          | (refine And.intro (fun _ => ?_) (fun h => absurd h (by decide)); conv => whnf)
          | (refine And.intro (fun h => absurd h (by decide)) (fun _ => ?_); conv => whnf)
          | (refine And.intro (fun _ => ?_) (fun _ => ?_) <;> conv => whnf)
          | (refine ⟨_, _, frz_a su rfl rfl, ?_⟩; conv => whnf)
          | (refine ⟨_, _, neF [1] (by kernel_rfl) rfl, ?_⟩; conv => whnf)))
        all_goals try (exfalso; simp only [decide_eq_true_eq, decide_eq_false_iff_not, Bool.not_eq_true', Bool.not_eq_false', Bool.not_eq_true, Bool.not_eq_false, beq_iff_eq, bne_iff_ne, beq_eq_false_iff_ne, bne_eq_false_iff_eq, ne_eq, Decidable.not_not] at *; first | omega | contradiction | (simp_all; done) | (simp_all; omega))
        · rename_i hne
          have h9 : ¬ sumAt ls k ≤ 9223372036854775807 := fun h => by rw [toldZ_in ⟨by omega, h⟩] at hne; simp at hne
          obtain ⟨e1, e2⟩ := merge_over hok hk6 (by omega)
          have et : toldZ (sumAt ls k) = (0, 12) := by unfold toldZ; rw [if_neg (by omega)]
          repeat (any_goals (first
            | exact True.intro
            | (refine And.intro (whole_len s68 z65_len) ?_; conv => whnf)
            | (refine ⟨hR z65, by kernel_rfl, ?_⟩; conv => whnf)
            | (refine And.intro (sets_fit z65_len z65_len) ?_; conv => whnf)
            | (refine ⟨_, rows_whole z65_len z65_len, ?_⟩; conv => whnf)
            | (refine Or.inl ?_; conv => whnf)
            | (refine And.intro (fun _ => ?_) tf; conv => whnf)
            | (refine And.intro ft (fun _ => ?_); conv => whnf)
            | (refine And.intro (by kernel_rfl) ?_; conv => whnf)
            | (refine And.intro (by decide) ?_; conv => whnf)
            | (refine And.intro (fun _ => ?_) (fun h => absurd h (by decide)); conv => whnf)
            | (refine And.intro (fun h => absurd h (by decide)) (fun _ => ?_); conv => whnf)
            | (refine And.intro (fun _ => ?_) (fun _ => ?_) <;> conv => whnf)))
          rw [e1, e2]
          all_goals refine ⟨[], ?_⟩
          repeat (any_goals (first | exact True.intro | exact rfl | with_reducible_and_instances rfl | exact (by kernel_rfl) | refine And.intro ?_ ?_))
          all_goals conv => whnf
          rw [et]; rfl
        · rename_i hne
          have h9 : sumAt ls k ≤ 9223372036854775807 := by
            refine Classical.byContradiction fun h => ?_
            unfold toldZ at hne
            rw [if_neg (by omega)] at hne
            exact absurd hne (by decide)
          have et := toldZ_in (z := sumAt ls k) ⟨by omega, h9⟩
          have hst : 0 + k * 1 + 1 ≤ (hR p).length := by rw [hR_len]; omega
          have hse := sets_row (l := p) (k := k) (toldZ (sumAt ls k)).1 (by omega)
          rw [show p.set k (toldZ (sumAt ls k)).1 = partL ls (k + 1) by rw [et, hp]; exact partL_set ls hk6] at hse
          repeat (any_goals (first
            | exact True.intro
            | (refine ⟨k, rfl, hk6, ?_⟩; conv => whnf)
            | (refine And.intro hst ?_; conv => whnf)
            | (refine ⟨_, hse, ?_⟩; conv => whnf)
            | (refine Or.inl ?_; conv => whnf)
            | (refine And.intro (fun _ => ?_) tf; conv => whnf)
            | (refine And.intro ft (fun _ => ?_); conv => whnf)
            | (refine And.intro (by kernel_rfl) ?_; conv => whnf)
            | (refine And.intro (by decide) ?_; conv => whnf)
            | (refine And.intro (fun _ => ?_) (fun h => absurd h (by decide)); conv => whnf)
            | (refine And.intro (fun h => absurd h (by decide)) (fun _ => ?_); conv => whnf)
            | (refine And.intro (fun _ => ?_) (fun _ => ?_) <;> conv => whnf)))
          all_goals try (exfalso; simp only [decide_eq_true_eq, decide_eq_false_iff_not, Bool.not_eq_true', Bool.not_eq_false', Bool.not_eq_true, Bool.not_eq_false, beq_iff_eq, bne_iff_ne, beq_eq_false_iff_ne, bne_eq_false_iff_eq, ne_eq, Decidable.not_not] at *; first | omega | contradiction | (simp_all; done) | (simp_all; omega))
          refine ⟨(k + 1, partL ls (k + 1)), ⟨⟨hk6, fun j (hj : j < k + 1) => ?_⟩, rfl⟩, show 65 - (k + 1) < 65 - k by omega, ?_⟩
          · rcases Nat.lt_or_ge j k with q | q
            · exact hsm j q
            · rw [show j = k by omega]; exact h9
          all_goals refine ⟨[], ?_⟩
          repeat (any_goals (first | exact True.intro | exact rfl | with_reducible_and_instances rfl | exact (by kernel_rfl) | refine And.intro ?_ ?_))
          all_goals conv => whnf
          exact wk1 (by omega)
    · have hke : k = 65 := by omega
      obtain ⟨e1, e2⟩ := merge_fine hok (fun j hj => hsm j (by omega))
      rw [← partL_all, ← hke, ← hp] at e2
      rw [e1, e2]
      repeat (any_goals (first
        | exact True.intro
        | (refine And.intro (fun h => absurd h (by simpa using hk6)) (fun _ => ?_); conv => whnf)
        | (refine And.intro (whole_len s68 p65) ?_; conv => whnf)
        | (refine ⟨_, whole_row s68 p65, whole_len s68 p65, ?_⟩; conv => whnf)
        | (refine And.intro (sets_fit z65_len p65) ?_; conv => whnf)
        | (refine ⟨_, rows_whole z65_len p65, ?_⟩; conv => whnf)
        | (refine ⟨_, rfl, ?_⟩; conv => whnf)
        | (refine Or.inl ?_; conv => whnf)
        | (refine And.intro (fun _ => ?_) tf; conv => whnf)
        | (refine And.intro ft (fun _ => ?_); conv => whnf)
        | (refine And.intro (by kernel_rfl) ?_; conv => whnf)
        | (refine And.intro (by decide) ?_; conv => whnf)
        | (refine And.intro (fun _ => ?_) (fun h => absurd h (by decide)); conv => whnf)
        | (refine And.intro (fun h => absurd h (by decide)) (fun _ => ?_); conv => whnf)
        | (refine And.intro (fun _ => ?_) (fun _ => ?_) <;> conv => whnf)))
      all_goals try (exfalso; simp only [decide_eq_true_eq, decide_eq_false_iff_not, Bool.not_eq_true', Bool.not_eq_false', Bool.not_eq_true, Bool.not_eq_false, beq_iff_eq, bne_iff_ne, beq_eq_false_iff_ne, bne_eq_false_iff_eq, ne_eq, Decidable.not_not] at *; first | omega | contradiction | (simp_all; done) | (simp_all; omega))
      all_goals refine ⟨[], ?_⟩
      repeat (any_goals (first | exact True.intro | exact rfl | with_reducible_and_instances rfl | exact (by kernel_rfl) | refine And.intro ?_ ?_))
      all_goals conv => whnf
end Go.Proofs.Ytbjmdnemeidpjaa
/- Cells, in plain Lean: fold, right, note, merge; sums of 128 bits. -/
namespace Go.Proofs.Ytbjmdnemeidpjaa
set_option linter.unusedSimpArgs false
set_option linter.unusedVariables false
open Go.RowKit
set_option linter.unusedSectionVars false
/-- A cell: how many values, their sum, the least, the greatest, the tallies, the buckets. -/
structure Cel where
  n : Int
  s : Int
  mn : Int
  mx : Int
  ce : Int
  po : Int
  h : List Int
deriving DecidableEq
theorem Cel.ext' {a b : Cel} (h1 : a.n = b.n) (h2 : a.s = b.s) (h3 : a.mn = b.mn) (h4 : a.mx = b.mx) (h5 : a.ce = b.ce) (h6 : a.po = b.po) (h7 : a.h = b.h) : a = b := by
  cases a; cases b; simp_all
def zC : Cel := ⟨0, 0, 0, 0, 0, 0, z65⟩
def in128 (z : Int) : Prop := in64 (hiZ z)
instance (z : Int) : Decidable (in128 z) := by unfold in128 in64; infer_instance
structure CelOK (c : Cel) : Prop where
  n : in64 c.n
  s : in128 c.s
  mn : in64 c.mn
  mx : in64 c.mx
  ce : in64 c.ce
  po : in64 c.po
  hl : c.h.length = 65
  hx : ∀ z ∈ c.h, in64 z
/-- The least and the greatest of what has come. -/
def mmin (l : List Int) : Int := match l with | [] => 0 | x :: r => r.foldl min x
def mmax (l : List Int) : Int := match l with | [] => 0 | x :: r => r.foldl max x
def foldC (l : List Int) : Cel := ⟨l.length, l.sum, mmin l, mmax l, 0, 0, histL l⟩
def hAt (h : List Int) (b : Nat) : Int := h[b]?.getD 0
def inB (c : Cel) : Bool := (List.range 65).all fun b => decide (hAt c.h b = 0 ∨ (bkt c.mn ≤ b ∧ b ≤ bkt c.mx))
def rightC (c : Cel) : Bool := decide (0 ≤ c.n ∧ 0 ≤ c.ce ∧ 0 ≤ c.po ∧ c.mn ≤ c.mx) && okH c.h && decide (c.h.sum = c.n) &&
  (if c.n = 0 then decide (c.s = 0 ∧ c.mn = 0 ∧ c.mx = 0) else decide (hAt c.h (bkt c.mn) ≠ 0 ∧ hAt c.h (bkt c.mx) ≠ 0) && inB c)
def big : Int := 9223372036854775807
def noteC (c : Cel) (b : Bool) : Cel × Int := if rightC c = false then (zC, 10) else
  if (if b then c.ce else c.po) = big then (zC, 12) else (⟨c.n, c.s, c.mn, c.mx, if b then c.ce + 1 else c.ce, if b then c.po else c.po + 1, c.h⟩, 0)
def addC (c : Cel) (v : Int) : Cel × Int := if rightC c = false then (zC, 10) else
  if c.n = big then (zC, 12) else if ¬ in128 (c.s + v) then (zC, 12) else
  (⟨c.n + 1, c.s + v, if c.n = 0 then v else min c.mn v, if c.n = 0 then v else max c.mx v, c.ce, c.po, bump c.h (bkt v)⟩, 0)
def sumN (l : List Cel) : Int := (l.map (·.n)).sum
def sumS (l : List Cel) : Int := (l.map (·.s)).sum
def sumCe (l : List Cel) : Int := (l.map (·.ce)).sum
def sumPo (l : List Cel) : Int := (l.map (·.po)).sum
def full (l : List Cel) : List Cel := l.filter fun c => decide (c.n ≠ 0)
def fitsC (l : List Cel) : Bool := decide (sumN l ≤ big ∧ sumCe l ≤ big ∧ sumPo l ≤ big ∧ in128 (sumS l))
def joinC (l : List Cel) : Cel := ⟨sumN l, sumS l, mmin ((full l).map (·.mn)), mmax ((full l).map (·.mx)), sumCe l, sumPo l, mergeL (l.map (·.h))⟩
def mergeC (l : List Cel) : Cel × Int := if l.all rightC = false then (zC, 10) else if fitsC l = false then (zC, 12) else (joinC l, 0)
/-! ### the least and the greatest -/
theorem foldl_min : ∀ (r : List Int) (x y : Int), min y (r.foldl min x) = r.foldl min (min y x)
  | [], _, _ => rfl
  | z :: r, x, y => by rw [List.foldl_cons, List.foldl_cons, foldl_min r, Int.min_assoc]
theorem foldl_max : ∀ (r : List Int) (x y : Int), max y (r.foldl max x) = r.foldl max (max y x)
  | [], _, _ => rfl
  | z :: r, x, y => by rw [List.foldl_cons, List.foldl_cons, foldl_max r, Int.max_assoc]
theorem mmin_snoc (l : List Int) (v : Int) : mmin (l ++ [v]) = if l = [] then v else min (mmin l) v := by
  cases l with
  | nil => rfl
  | cons x r => simp [mmin, List.foldl_append]
theorem mmax_snoc (l : List Int) (v : Int) : mmax (l ++ [v]) = if l = [] then v else max (mmax l) v := by
  cases l with
  | nil => rfl
  | cons x r => simp [mmax, List.foldl_append]
theorem mmin_mem : ∀ (l : List Int), l ≠ [] → mmin l ∈ l ∧ ∀ x ∈ l, mmin l ≤ x := by
  intro l h
  match l, h with
  | x :: r, _ =>
    clear h
    induction r generalizing x with
    | nil => simp [mmin]
    | cons y r ih =>
      have e : mmin (x :: y :: r) = min x (mmin (y :: r)) := by simp only [mmin, List.foldl_cons]; rw [foldl_min]
      obtain ⟨h1, h2⟩ := ih y (by simp)
      rw [e]
      refine ⟨?_, fun z hz => ?_⟩
      · rcases Int.le_total x (mmin (y :: r)) with q | q
        · rw [Int.min_eq_left q]; exact List.mem_cons_self ..
        · rw [Int.min_eq_right q]; exact List.mem_cons_of_mem _ h1
      · rcases List.mem_cons.1 hz with q | q
        · subst q; exact Int.min_le_left _ _
        · exact Int.le_trans (Int.min_le_right _ _) (h2 z q)
theorem mmax_mem : ∀ (l : List Int), l ≠ [] → mmax l ∈ l ∧ ∀ x ∈ l, x ≤ mmax l := by
  intro l h
  match l, h with
  | x :: r, _ =>
    clear h
    induction r generalizing x with
    | nil => simp [mmax]
    | cons y r ih =>
      have e : mmax (x :: y :: r) = max x (mmax (y :: r)) := by simp only [mmax, List.foldl_cons]; rw [foldl_max]
      obtain ⟨h1, h2⟩ := ih y (by simp)
      rw [e]
      refine ⟨?_, fun z hz => ?_⟩
      · rcases Int.le_total x (mmax (y :: r)) with q | q
        · rw [Int.max_eq_right q]; exact List.mem_cons_of_mem _ h1
        · rw [Int.max_eq_left q]; exact List.mem_cons_self ..
      · rcases List.mem_cons.1 hz with q | q
        · subst q; exact Int.le_max_left _ _
        · exact Int.le_trans (h2 z q) (Int.le_max_right _ _)
theorem mmin_perm {l l' : List Int} (h : l.Perm l') : mmin l = mmin l' := by
  by_cases e : l = []
  · subst e; rw [List.nil_perm.1 h]
  · have e' : l' ≠ [] := fun q => e (by subst q; exact List.perm_nil.1 h)
    obtain ⟨h1, h2⟩ := mmin_mem l e
    obtain ⟨h3, h4⟩ := mmin_mem l' e'
    exact Int.le_antisymm (h2 _ (h.mem_iff.2 h3)) (h4 _ (h.mem_iff.1 h1))
theorem mmax_perm {l l' : List Int} (h : l.Perm l') : mmax l = mmax l' := by
  by_cases e : l = []
  · subst e; rw [List.nil_perm.1 h]
  · have e' : l' ≠ [] := fun q => e (by subst q; exact List.perm_nil.1 h)
    obtain ⟨h1, h2⟩ := mmax_mem l e
    obtain ⟨h3, h4⟩ := mmax_mem l' e'
    exact Int.le_antisymm (h4 _ (h.mem_iff.1 h1)) (h2 _ (h.mem_iff.2 h3))
theorem mm_in {l : List Int} (h : ∀ z ∈ l, in64 z) : in64 (mmin l) ∧ in64 (mmax l) := by
  by_cases e : l = []
  · subst e; exact ⟨by unfold in64; simp [mmin], by unfold in64; simp [mmax]⟩
  · exact ⟨h _ (mmin_mem l e).1, h _ (mmax_mem l e).1⟩
/-! ### what a right cell is -/
structure RightC (c : Cel) : Prop where
  n : 0 ≤ c.n
  ce : 0 ≤ c.ce
  po : 0 ≤ c.po
  mm : c.mn ≤ c.mx
  ok : okH c.h = true
  sum : c.h.sum = c.n
  zero : c.n = 0 → c.s = 0 ∧ c.mn = 0 ∧ c.mx = 0
  low : c.n ≠ 0 → hAt c.h (bkt c.mn) ≠ 0
  high : c.n ≠ 0 → hAt c.h (bkt c.mx) ≠ 0
  all : c.n ≠ 0 → ∀ b, b < 65 → hAt c.h b ≠ 0 → bkt c.mn ≤ b ∧ b ≤ bkt c.mx
theorem right_iff {c : Cel} : rightC c = true ↔ RightC c := by
  unfold rightC
  simp only [Bool.and_eq_true, decide_eq_true_eq]
  constructor
  · rintro ⟨⟨⟨⟨h1, h2, h3, h4⟩, h5⟩, h6⟩, h7⟩
    by_cases e : c.n = 0
    · rw [if_pos e] at h7
      have h7 := of_decide_eq_true h7
      exact ⟨h1, h2, h3, h4, h5, h6, fun _ => h7, fun h => absurd e h, fun h => absurd e h, fun h => absurd e h⟩
    · rw [if_neg e, Bool.and_eq_true] at h7
      have h8 := of_decide_eq_true h7.1
      refine ⟨h1, h2, h3, h4, h5, h6, fun h => absurd h e, fun _ => h8.1, fun _ => h8.2, fun _ b hb hne => ?_⟩
      have := List.all_eq_true.1 h7.2 b (List.mem_range.2 hb)
      have := of_decide_eq_true this
      rcases this with q | q
      · exact absurd q hne
      · exact q
  · intro h
    refine ⟨⟨⟨⟨h.n, h.ce, h.po, h.mm⟩, h.ok⟩, h.sum⟩, ?_⟩
    by_cases e : c.n = 0
    · rw [if_pos e]; exact decide_eq_true (h.zero e)
    · rw [if_neg e, Bool.and_eq_true]
      refine ⟨decide_eq_true ⟨h.low e, h.high e⟩, List.all_eq_true.2 fun b hb => decide_eq_true ?_⟩
      by_cases q : hAt c.h b = 0
      · exact .inl q
      · exact .inr (h.all e b (List.mem_range.1 hb) q)
end Go.Proofs.Ytbjmdnemeidpjaa
/- Cells, in plain Lean: what is folded is right; one more value; notes; the order makes no difference. -/
namespace Go.Proofs.Ytbjmdnemeidpjaa
set_option linter.unusedSimpArgs false
set_option linter.unusedVariables false
open Go.RowKit
set_option linter.unusedSectionVars false
theorem bitLen_mono (y : Nat) : ∀ x : Nat, x ≤ y → y < 9223372036854775808 → Lib.bitLen x ≤ Lib.bitLen y := by
  induction y using Nat.strongRecOn with
  | ind y ih =>
    intro x hx hy
    by_cases h0 : x = 0
    · subst h0
      have : Lib.bitLen 0 = 0 := by decide
      omega
    · rw [bitLen_pos h0 (by omega), bitLen_pos (x := y) (by omega) hy]
      have := ih (y / 2) (by omega) (x / 2) (by omega) (by omega)
      omega
theorem bkt_mono {x y : Int} (h : x ≤ y) (hy : y ≤ 9223372036854775807) : bkt x ≤ bkt y := by
  unfold bkt
  have := bitLen_mono y.toNat x.toNat (by omega) (by omega)
  split <;> split <;> (try split) <;> (try split) <;> omega
theorem perm_sumI {l l' : List Int} (h : l.Perm l') : l.sum = l'.sum := by
  induction h with
  | nil => rfl
  | cons x _ ih => simp [ih]
  | swap x y l => simp; omega
  | trans _ _ h1 h2 => exact h1.trans h2
theorem hAt_histL (l : List Int) {b : Nat} (hb : b < 65) : hAt (histL l) b = (l.countP (fun v => bkt v == b) : Nat) := histL_get l b hb
theorem hAt_bump {h : List Int} (hl : h.length = 65) {k : Nat} (hk : k < 65) (b : Nat) : hAt (bump h k) b = if b = k then hAt h k + 1 else hAt h b := by
  unfold hAt bump
  rw [List.getElem?_set]
  by_cases e : k = b
  · subst e
    rw [if_pos rfl, if_pos (by omega), if_pos rfl]; rfl
  · rw [if_neg e, if_neg (fun q => e q.symm)]
theorem sum_bump : ∀ (h : List Int) (k : Nat), k < h.length → (bump h k).sum = h.sum + 1
  | [], k, hk => absurd hk (by simp)
  | x :: h, 0, _ => by simp [bump]; omega
  | x :: h, k + 1, hk => by
    have := sum_bump h k (by simpa using hk)
    unfold bump at *
    simp only [List.set_cons_succ, List.getElem?_cons_succ, List.sum_cons]
    omega
theorem okH_bump {h : List Int} {k : Nat} (ho : okH h = true) : okH (bump h k) = true := by
  unfold okH bump at *
  rw [List.all_eq_true] at *
  intro x hx
  rcases List.mem_or_eq_of_mem_set hx with q | q
  · exact ho x q
  · subst q
    have := okH_at (l := h) (by unfold okH; exact List.all_eq_true.2 ho) k
    exact decide_eq_true (by omega)
theorem okH_le_sum : ∀ {h : List Int}, okH h = true → ∀ x ∈ h, 0 ≤ x ∧ x ≤ h.sum
  | [], _, x, hx => absurd hx (by simp)
  | y :: h, ho, x, hx => by
    unfold okH at ho
    rw [List.all_cons, Bool.and_eq_true] at ho
    have hy := of_decide_eq_true ho.1
    have hs : 0 ≤ h.sum := by
      have : ∀ l : List Int, okH l = true → 0 ≤ l.sum := by
        intro l
        induction l with
        | nil => intro _; simp
        | cons z l ih =>
          intro q
          unfold okH at q
          rw [List.all_cons, Bool.and_eq_true] at q
          have := of_decide_eq_true q.1
          have := ih q.2
          rw [List.sum_cons]; omega
      exact this h ho.2
    rw [List.sum_cons]
    rcases List.mem_cons.1 hx with q | q
    · subst q; omega
    · have := okH_le_sum (h := h) ho.2 x q
      omega
theorem hAt_mem {h : List Int} (hl : h.length = 65) {b : Nat} (hb : b < 65) : hAt h b ∈ h := by
  unfold hAt
  rw [List.getElem?_eq_getElem (by omega)]
  exact List.getElem_mem _
theorem hAt_le {c : Cel} (h : RightC c) (hl : c.h.length = 65) {b : Nat} (hb : b < 65) : 0 ≤ hAt c.h b ∧ hAt c.h b ≤ c.n := by
  have := okH_le_sum h.ok _ (hAt_mem hl hb)
  rw [h.sum] at this
  exact this
theorem rightC_zC : rightC zC = true := by decide
/-! ### what is folded -/
theorem sum_in128 {l : List Int} (h : ∀ z ∈ l, in64 z) (hn : l.length ≤ 65536) : in128 l.sum := by
  have := sum_abs l h
  unfold in128 hiZ word in64
  omega
theorem foldC_ok {l : List Int} (h : ∀ z ∈ l, in64 z) (hn : l.length ≤ 65536) : CelOK (foldC l) where
  n := by show in64 (l.length : Int); unfold in64; omega
  s := sum_in128 h hn
  mn := (mm_in h).1
  mx := (mm_in h).2
  ce := by show in64 0; unfold in64; omega
  po := by show in64 0; unfold in64; omega
  hl := histL_len l
  hx := fun z hz => by have := histL_mem l z hz; unfold in64; omega
theorem foldC_right {l : List Int} (h : ∀ z ∈ l, in64 z) : RightC (foldC l) := by
  have hin : inL l := fun x hx => h x hx
  refine ⟨by show (0 : Int) ≤ (l.length : Int); omega, Int.le_refl _, Int.le_refl _, ?_, histL_ok l, histL_sum l hin, ?_, ?_, ?_, ?_⟩
  · show mmin l ≤ mmax l
    by_cases e : l = []
    · subst e; exact Int.le_refl _
    · exact (mmin_mem l e).2 _ (mmax_mem l e).1
  · intro q
    have q : (l.length : Int) = 0 := q
    have : l = [] := List.length_eq_zero_iff.1 (by omega)
    subst this
    exact ⟨rfl, rfl, rfl⟩
  · intro q
    have e : l ≠ [] := fun e => q (by subst e; rfl)
    have hm := (mmin_mem l e).1
    show hAt (histL l) (bkt (mmin l)) ≠ 0
    rw [hAt_histL l (bkt_lt _ (h _ hm).2)]
    have : 0 < l.countP (fun v => bkt v == bkt (mmin l)) := List.countP_pos_iff.2 ⟨_, hm, by simp⟩
    omega
  · intro q
    have e : l ≠ [] := fun e => q (by subst e; rfl)
    have hm := (mmax_mem l e).1
    show hAt (histL l) (bkt (mmax l)) ≠ 0
    rw [hAt_histL l (bkt_lt _ (h _ hm).2)]
    have : 0 < l.countP (fun v => bkt v == bkt (mmax l)) := List.countP_pos_iff.2 ⟨_, hm, by simp⟩
    omega
  · intro q b hb hne
    have e : l ≠ [] := fun e => q (by subst e; rfl)
    have hne : hAt (histL l) b ≠ 0 := hne
    rw [hAt_histL l hb] at hne
    have : 0 < l.countP (fun v => bkt v == b) := by omega
    obtain ⟨v, hv, hvb⟩ := List.countP_pos_iff.1 this
    have hvb : bkt v = b := by simpa using hvb
    subst hvb
    exact ⟨bkt_mono ((mmin_mem l e).2 v hv) (h v hv).2, bkt_mono ((mmax_mem l e).2 v hv) (h _ (mmax_mem l e).1).2⟩
/-! ### one more value -/
theorem addC_ok {c : Cel} {v : Int} (hc : CelOK c) (hr : RightC c) (hv : in64 v) (hn : c.n ≠ big) (hs : in128 (c.s + v)) : CelOK (addC c v).1 := by
  unfold addC
  rw [if_neg (by rw [right_iff.2 hr]; simp), if_neg hn, if_neg (by simpa using hs)]
  have h1 := hc.n
  have h2 := hr.n
  unfold big at hn
  refine ⟨?_, hs, ?_, ?_, hc.ce, hc.po, by show (bump c.h (bkt v)).length = 65; rw [bump_len]; exact hc.hl, ?_⟩
  · show in64 (c.n + 1); unfold in64 at *; omega
  · show in64 (if c.n = 0 then v else min c.mn v)
    have := hc.mn
    unfold in64 at *
    split <;> omega
  · show in64 (if c.n = 0 then v else max c.mx v)
    have := hc.mx
    unfold in64 at *
    split <;> omega
  · intro z hz
    have hz : z ∈ bump c.h (bkt v) := hz
    have := okH_le_sum (okH_bump (k := bkt v) hr.ok) z hz
    rw [sum_bump _ _ (by rw [hc.hl]; exact bkt_lt v hv.2), hr.sum] at this
    unfold in64 at *
    omega
theorem addC_right {c : Cel} {v : Int} (hc : CelOK c) (hr : RightC c) (hv : in64 v) (hn : c.n ≠ big) (hs : in128 (c.s + v)) : RightC (addC c v).1 := by
  unfold addC
  rw [if_neg (by rw [right_iff.2 hr]; simp), if_neg hn, if_neg (by simpa using hs)]
  have h2 := hr.n
  have hb := bkt_lt v hv.2
  have hA := hAt_bump hc.hl hb
  have hx := fun b (q : b < 65) => hAt_le hr hc.hl q
  refine ⟨by show 0 ≤ c.n + 1; omega, hr.ce, hr.po, ?_, okH_bump hr.ok, ?_, ?_, ?_, ?_, ?_⟩
  · show (if c.n = 0 then v else min c.mn v) ≤ (if c.n = 0 then v else max c.mx v)
    have := hr.mm
    split <;> omega
  · show (bump c.h (bkt v)).sum = c.n + 1
    rw [sum_bump _ _ (by rw [hc.hl]; exact hb), hr.sum]
  · intro q
    have q : c.n + 1 = 0 := q
    omega
  · intro _
    show hAt (bump c.h (bkt v)) (bkt (if c.n = 0 then v else min c.mn v)) ≠ 0
    rw [hA]
    have := hx _ hb
    by_cases e : c.n = 0
    · rw [if_pos e, if_pos rfl]; omega
    · rw [if_neg e]
      by_cases q : bkt (min c.mn v) = bkt v
      · rw [if_pos q]; omega
      · rw [if_neg q]
        rcases Int.le_total c.mn v with r | r
        · rw [Int.min_eq_left r]; exact hr.low e
        · rw [Int.min_eq_right r] at q; exact absurd rfl q
  · intro _
    show hAt (bump c.h (bkt v)) (bkt (if c.n = 0 then v else max c.mx v)) ≠ 0
    rw [hA]
    have := hx _ hb
    by_cases e : c.n = 0
    · rw [if_pos e, if_pos rfl]; omega
    · rw [if_neg e]
      by_cases q : bkt (max c.mx v) = bkt v
      · rw [if_pos q]; omega
      · rw [if_neg q]
        rcases Int.le_total c.mx v with r | r
        · rw [Int.max_eq_right r] at q; exact absurd rfl q
        · rw [Int.max_eq_left r]; exact hr.high e
  · intro _ b hb2 hne
    have hne : hAt (bump c.h (bkt v)) b ≠ 0 := hne
    show bkt (if c.n = 0 then v else min c.mn v) ≤ b ∧ b ≤ bkt (if c.n = 0 then v else max c.mx v)
    rw [hA] at hne
    by_cases e : c.n = 0
    · rw [if_pos e, if_pos e]
      by_cases q : b = bkt v
      · omega
      · rw [if_neg q] at hne
        have := hx b hb2
        omega
    · rw [if_neg e, if_neg e]
      have m1 := bkt_mono (x := min c.mn v) (y := c.mn) (by omega) hc.mn.2
      have m2 := bkt_mono (x := min c.mn v) (y := v) (by omega) hv.2
      have m3 := bkt_mono (x := c.mx) (y := max c.mx v) (by omega) (by have := hc.mx.2; have := hv.2; omega)
      have m4 := bkt_mono (x := v) (y := max c.mx v) (by omega) (by have := hc.mx.2; have := hv.2; omega)
      by_cases q : b = bkt v
      · omega
      · rw [if_neg q] at hne
        have := hr.all e b hb2 hne
        omega
theorem addC_fine {c : Cel} {v : Int} (hr : RightC c) (hn : c.n ≠ big) (hs : in128 (c.s + v)) : addC c v = (⟨c.n + 1, c.s + v, if c.n = 0 then v else min c.mn v, if c.n = 0 then v else max c.mx v, c.ce, c.po, bump c.h (bkt v)⟩, 0) := by
  unfold addC
  rw [if_neg (by rw [right_iff.2 hr]; simp), if_neg hn, if_neg (by simpa using hs)]
theorem hist_fine {c : Cel} {v : Int} (hc : CelOK c) (hr : RightC c) (hv : in64 v) (hn : c.n ≠ big) : addE c.h v = 0 ∧ addL c.h v = bump c.h (bkt v) := by
  have h : addE c.h v = 0 := by
    unfold addE
    rw [if_neg (by rw [hr.ok]; simp), if_neg]
    intro q
    have hb := bkt_lt v hv.2
    have := (hAt_le hr hc.hl hb).2
    unfold hAt at this
    rw [q] at this
    have h2 := hc.n.2
    unfold big at hn
    exact hn (by simp at this; omega)
  exact ⟨h, by unfold addL; rw [if_pos h]⟩
theorem foldC_snoc {l : List Int} {v : Int} (h : ∀ z ∈ l ++ [v], in64 z) (hn : l.length ≤ 60000) : addC (foldC l) v = (foldC (l ++ [v]), 0) := by
  have hl : ∀ z ∈ l, in64 z := fun z hz => h z (by simp [hz])
  have e1 : (l ++ [v]).sum = l.sum + v := by simp
  rw [addC_fine (foldC_right hl) (by show (l.length : Int) ≠ big; unfold big; omega) (by show in128 (l.sum + v); rw [← e1]; exact sum_in128 h (by simp; omega))]
  refine congrArg (·, (0 : Int)) (Cel.ext' ?_ ?_ ?_ ?_ rfl rfl ?_)
  · show (l.length : Int) + 1 = ((l ++ [v]).length : Int); simp
  · exact e1.symm
  · show (if (l.length : Int) = 0 then v else min (mmin l) v) = mmin (l ++ [v])
    rw [mmin_snoc]
    by_cases e : l = []
    · subst e; rfl
    · have : ¬ (l.length : Int) = 0 := fun q => e (List.length_eq_zero_iff.1 (by omega))
      rw [if_neg this, if_neg e]
  · show (if (l.length : Int) = 0 then v else max (mmax l) v) = mmax (l ++ [v])
    rw [mmax_snoc]
    by_cases e : l = []
    · subst e; rfl
    · have : ¬ (l.length : Int) = 0 := fun q => e (List.length_eq_zero_iff.1 (by omega))
      rw [if_neg this, if_neg e]
  · exact (histL_snoc l v).symm
/-! ### notes -/
theorem noteC_fine {c : Cel} {b : Bool} (hr : RightC c) (hn : (if b then c.ce else c.po) ≠ big) : noteC c b = (⟨c.n, c.s, c.mn, c.mx, if b then c.ce + 1 else c.ce, if b then c.po else c.po + 1, c.h⟩, 0) := by
  unfold noteC
  rw [if_neg (by rw [right_iff.2 hr]; simp), if_neg hn]
theorem noteC_right {c : Cel} {b : Bool} (hr : RightC c) (hn : (if b then c.ce else c.po) ≠ big) : RightC (noteC c b).1 := by
  rw [noteC_fine hr hn]
  have h1 := hr.ce
  have h2 := hr.po
  refine ⟨hr.n, ?_, ?_, hr.mm, hr.ok, hr.sum, hr.zero, hr.low, hr.high, hr.all⟩
  · show 0 ≤ if b then c.ce + 1 else c.ce
    split <;> omega
  · show 0 ≤ if b then c.po else c.po + 1
    split <;> omega
theorem noteC_ok {c : Cel} {b : Bool} (hc : CelOK c) (hr : RightC c) (hn : (if b then c.ce else c.po) ≠ big) : CelOK (noteC c b).1 := by
  rw [noteC_fine hr hn]
  have h1 := hr.ce
  have h2 := hr.po
  have h3 := hc.ce
  have h4 := hc.po
  refine ⟨hc.n, hc.s, hc.mn, hc.mx, ?_, ?_, hc.hl, hc.hx⟩
  · show in64 (if b then c.ce + 1 else c.ce)
    unfold in64 big at *
    cases b <;> simp at * <;> omega
  · show in64 (if b then c.po else c.po + 1)
    unfold in64 big at *
    cases b <;> simp at * <;> omega
end Go.Proofs.Ytbjmdnemeidpjaa
/- Full: the maker of the iterator, and the iterator's contract. -/
namespace Go.Proofs.Ytbjmdnemeidpjaa
open Go.RowKit
set_option linter.unusedVariables false
set_option linter.unusedSimpArgs false
set_option maxRecDepth 100000 in
theorem full_any (l : List Int) (w : World) :
    Calls Try.prog 35 #[.agg (hc l)] w fun e w' => e = .returned (.func (.func 80) #[] #[.pointer (some ⟨w.heap.size, 0, none⟩)]) ∧ w' = w.alloc (.cells (hc l) 27) := by
  have hmf : ∀ (fn : Fn) (first cap : Array Value) (w : World), (Instr.makeFunc fn first cap).run Try.prog w = .ok (.func fn first cap) w := fun _ _ _ _ => by kernel_rfl
  go_enter Try.func35, Try.ntmps35
  go_wp2
  go_ret
  exact ⟨rfl, rfl⟩
/-- The buckets that are not empty, below k. -/
def fullTo (l : List Int) (k : Nat) : List (Nat × Int) := (List.range k).filterMap fun b => if l[b]?.getD 0 = 0 then none else some (b, l[b]?.getD 0)
theorem fullTo_none {l : List Int} {k : Nat} (h : l[k]? = some 0) : fullTo l (k + 1) = fullTo l k := by
  unfold fullTo
  rw [List.range_succ, List.filterMap_append]
  simp [h]
theorem fullTo_some {l : List Int} {k : Nat} {x : Int} (h : l[k]? = some x) (hx : x ≠ 0) : fullTo l (k + 1) = fullTo l k ++ [(k, x)] := by
  unfold fullTo
  rw [List.range_succ, List.filterMap_append]
  simp [h, hx]
theorem fullTo_len (l : List Int) (k : Nat) : (fullTo l k).length ≤ k := by
  unfold fullTo
  exact Nat.le_trans (List.length_filterMap_le _ _) (by simp)
theorem fullTo_pre (l : List Int) : ∀ (j k : Nat), fullTo l k <+: fullTo l (k + j)
  | 0, k => List.prefix_refl _
  | j + 1, k => by
    refine List.IsPrefix.trans (fullTo_pre l j k) ?_
    unfold fullTo
    rw [← Nat.add_assoc, List.range_succ, List.filterMap_append]
    exact List.prefix_append _ _
def encP (x : Nat × Int) : Array Value := #[.int .i64 (x.1 : Int), .int .i64 x.2]
theorem wpListIn_load_blk {P : Program} {F : Fence} {n : Nat} {w : World} {ops : Array Oper} {rest : List Oper} {op : Oper} {a : Act} {Q : Exit → Act → World → Prop} (hgd : op.guard = none) (t : TypeId) (x : Operand) (ho : op.op = .load t x)
    (b : Nat) (hx : a.eval x = .pointer (some ⟨b, 0, none⟩)) (cs : Array Value) (d : TypeDesc) (hB : Blk w b t cs)
    (hu : P.underlying t = some d) (hd : d.isRow = true) (hi : (P.info? t).map (·.size) = some cs.size)
    (h : wpListIn F n P ops Q rest (a.put op.dst (.agg cs)) w) : wpListIn F n P ops Q (op :: rest) a w :=
  wpListIn_plain hgd fun _ hK => by
    refine ⟨fun f hf => by simp [Oper.about, ho] at hf, ?_⟩
    rw [Oper.semAt_eq _ _ _ (fun c h => by rw [ho] at h; cases h)]
    unfold execOp
    simp only [ho, hx, Instr.loadAt, Instr.sureAddr, Sem.run_bind, Sem.run_pure, Result.andThen_ok, run_load_blk hB hu hd hi]
    exact hK _ _ h
attribute [local go_sem] Oper.semAt_some
set_option maxHeartbeats 1000000 in
set_option maxRecDepth 100000 in
theorem fullIt (F : Fence) (n : Nat) (hF : F.fn 80) (hro : F.round = none) (hn : 1 ≤ n) (g : Nat) (l : List Int) (w : World) (hl : l.length = 65) (hB : Blk w g 27 (hc l)) :
    SeqStopsA F n Try.prog 80 #[.pointer (some ⟨g, 0, none⟩)] encP (fun xs => xs = fullTo l 65) (fun pre => pre <+: fullTo l 65) 65 w := fun lp J Jx W hW _ _ hY h0 => by
  have H9 := hide hl
  have HBW := hide (hB.next hW)
  refine callsIn_of_wp Try.func80 rfl hF ?_ hro
  simp only [Try.ntmps80, List.size_toArray, List.length_cons, List.length_nil, Nat.reduceAdd, Nat.reduceSub, Array.replicate_succ, Array.replicate_zero, List.push_toArray, List.append_toArray, List.nil_append, List.cons_append]
  gi_wp2_with (refine wpListIn_load_blk rfl 27 (.tmp 1) rfl g rfl (hc l) _ HBW.out Try.underlying27 rfl (info69l H9.out) ?_)
  gi_loopw [3, 4, 6] (fun _ _ i wr => ∃ (k : Nat), k ≤ 65 ∧ i = .int .i64 k ∧ J (fullTo l k) wr) (fun _ _ i _ => 65 - (intOf i).toNat)
  case atStart => exact ⟨0, by omega, rfl, h0⟩
  case round =>
    obtain ⟨k, hk, rfl, hJ⟩ := hrel
    by_cases hk1 : k < 65
    · obtain ⟨x, hx⟩ : ∃ x, l[k]? = some x := ⟨l[k]'(by omega), List.getElem?_eq_getElem _⟩
      have hix := fun w => index_h l k x w hk1 hx
      by_cases h0 : x = 0
      · subst h0
        have HJ2 := hide (show J (fullTo l (k + 1)) _ by rw [fullTo_none hx]; exact hJ)
        clear hx hJ
        gi_wp2
        refine ⟨fun _ h => (by cases h), ?_⟩
        gi_wp2
        go_roundw
        case rel => exact ⟨k + 1, by omega, by go_num, HJ2.out⟩
        case measure => simp [intOf]; omega
      · have hne : (x != 0) = true := by simpa using h0
        obtain ⟨fn, tmps, assign, body, hy, hR⟩ := hY (fullTo l k) (k, x) _ hJ (by have := fullTo_len l k; omega)
        dsimp only [encP] at hy
        have HX := hide hx
        clear hx hJ h0
        gi_wp2
        have hx0 : x ≠ 0 := by intro h; subst h; simp at hne
        refine hR.mono ?_
        rintro e W3 (⟨rfl, hJ3, _⟩ | ⟨rfl, hJx3⟩)
        · rw [← fullTo_some HX.out hx0] at hJ3
          gi_wp2
          go_roundw
          case rel => exact ⟨k + 1, by omega, by go_num, hJ3⟩
          case measure => simp [intOf]; omega
        · rw [← fullTo_some HX.out hx0] at hJx3
          gi_wp2
          refine bodyPost_ret (results_none rfl _ _ _) rfl ?_
          refine ⟨⟨_, rfl⟩, .inr ⟨_, ?_, hJx3⟩⟩
          have := fullTo_pre l (65 - (k + 1)) (k + 1)
          rw [show k + 1 + (65 - (k + 1)) = 65 by omega] at this
          exact this
    · obtain rfl : k = 65 := by omega
      gi_wp2
      go_end0
      exact ⟨⟨_, rfl⟩, .inl ⟨_, rfl, hJ⟩⟩
end Go.Proofs.Ytbjmdnemeidpjaa
/- Gaps: Right, Has. -/
namespace Go.Proofs.Ytbjmdnemeidpjaa
open Go.RowKit
set_option linter.unusedVariables false
set_option linter.unusedSimpArgs false
def gv (lo hi : Int) : Array Value := #[.int .i64 lo, .int .i64 hi]
theorem gv_one (lo hi : Int) : (gv lo hi).all (·.oneCell') = true := by
  rw [Array.all_eq_true_iff_forall_mem]
  intro v hv
  simp only [gv, List.mem_toArray, List.mem_cons, List.not_mem_nil, or_false] at hv
  rcases hv with rfl | rfl <;> rfl
end Go.Proofs.Ytbjmdnemeidpjaa
/- gap.New, Bounds. -/
namespace Go.Proofs.Ytbjmdnemeidpjaa
open Go.RowKit
set_option linter.unusedVariables false
set_option linter.unusedSimpArgs false
def bLo (b : Int) : Int := if b = 0 then -9223372036854775808 else if b = 1 then 0 else 2 ^ (b - 2).toNat
def bHi (b : Int) : Int := if b = 0 then -1 else if b = 1 then 0 else 2 * 2 ^ (b - 2).toNat - 1
def bIn (b : Int) : Bool := decide (0 ≤ b ∧ b < 65)
theorem bLo_in {b : Int} (h1 : 2 ≤ b) (h2 : b < 65) : 1 ≤ bLo b ∧ bLo b ≤ 4611686018427387904 ∧ bHi b = 2 * bLo b - 1 := by
  have h3 : bLo b = 2 ^ (b - 2).toNat := by unfold bLo; rw [if_neg (by omega), if_neg (by omega)]
  have h4 : bHi b = 2 * 2 ^ (b - 2).toNat - 1 := by unfold bHi; rw [if_neg (by omega), if_neg (by omega)]
  have h5 : (2 : Nat) ^ (b - 2).toNat ≤ 2 ^ 62 := Nat.pow_le_pow_right (by omega) (by omega)
  have h6 : 1 ≤ (2 : Nat) ^ (b - 2).toNat := Nat.one_le_two_pow
  have h7 : ((2 : Int) ^ (b - 2).toNat) = ((2 ^ (b - 2).toNat : Nat) : Int) := by simp
  rw [h3, h4, h7]
  omega
end Go.Proofs.Ytbjmdnemeidpjaa
/- What the statements share: CopyBytes, SameBytes; and bytes.Clone. -/
namespace Go.Proofs.Ytbjmdnemeidpjaa
open Go.RowKit
set_option linter.unusedVariables false
set_option linter.unusedSimpArgs false

theorem Try.info8 : (Try.prog.info? 5).map (fun i => (i.zero, i.size, i.bytes)) = some (some (.int .u8 0), 1, 1) := by kernel_rfl

theorem RdB.lit (w : World) (l : List UInt8) (e : TypeId) (fz : Nat × Nat) (n : Nat) (hl : l.length = n) : RdB (w.alloc (.cells (l.map bv).toArray e fz)) (w.heap.size + 1) (some ⟨w.heap.size, 0, none⟩) n l :=
  Rd.litm w (l.map bv).toArray e fz n 1 (by simpa using hl)

theorem take_ne {l l' : List UInt8} {k : Nat} (h : k < l.length) (h' : k < l'.length) (hne : l[k] ≠ l'[k]) : l ≠ l' := by
  intro e; subst e; exact hne rfl
theorem take_snoc_eq {l l' : List UInt8} {k : Nat} (h : k < l.length) (h' : k < l'.length) (ht : l.take k = l'.take k) (he : l[k] = l'[k]) : l.take (k + 1) = l'.take (k + 1) := by
  rw [List.take_succ_eq_append_getElem h, List.take_succ_eq_append_getElem h', ht, he]
theorem toNat_ne {a b : UInt8} (h : a ≠ b) : (((a.toNat : Int) != (b.toNat : Int)) = true) := by
  have : a.toNat ≠ b.toNat := fun e => h (UInt8.toNat_inj.1 e)
  simp; omega
theorem toNat_eqb {a b : UInt8} (h : a = b) : (((a.toNat : Int) != (b.toNat : Int)) = false) := by
  subst h; simp

theorem clone_any (A : Option Addr) (n c : Nat) (l : List UInt8) (w : World) (hr : RdB w w.heap.size A n l) (hn : n ≤ 140737488351232) :
    Calls Try.prog 96 #[.slice A n c] w fun e w' => ∃ v, e = .returned v ∧ Ow w' w.heap.size 5 1 v n (l.map bv) ∧ Below w.heap.size w w' := by
  have hlen := RdB.len hr
  cases A with
  | none =>
    have h0 : n = 0 := by
      rcases Nat.eq_zero_or_pos n with h | h
      · exact h
      · obtain ⟨b, off, h, _⟩ := hr.at_ h
        cases h
    subst h0
    have hl : l = [] := List.eq_nil_of_length_eq_zero hlen
    subst hl
    refine (Try.bytes_Clone_nil 0 c w).mono ?_
    rintro e w' ⟨rfl, rfl⟩
    exact ⟨_, rfl, Ow.nil _ _ _ _, Below.refl _ _⟩
  | some a =>
    refine (Try.bytes_Clone_at a n c (l.map fun x => (x.toNat : Int)) w (by simpa using hlen) (by omega) ?_).mono ?_
    · intro i hi
      obtain ⟨b, off, h, hb, hc⟩ := RdB.cell hr hi
      injection h with h
      subst h
      rw [Addr.add_lit, hc]
      have : i < l.length := by omega
      simp [List.getD, List.getElem?_eq_getElem this]
    · rintro e w' ⟨v, rfl, hown, _, hb⟩
      refine ⟨v, rfl, ?_, hb⟩
      have := Ow.of_own hown
      rw [List.map_map] at this
      exact this

end Go.Proofs.Ytbjmdnemeidpjaa
/- Numbers as bytes, and back: plain arithmetic. -/
namespace Go.Proofs.Ytbjmdnemeidpjaa
set_option linter.unusedSimpArgs false
set_option linter.unusedVariables false

/-- What so many bytes more can hold: 2 * 128^f. -/
def bnd : Nat → Nat
  | 0 => 2
  | f + 1 => 128 * bnd f
def encF : Nat → Nat → List UInt8
  | 0, u => [UInt8.ofNat u]
  | f + 1, u => if u < 128 then [UInt8.ofNat u] else UInt8.ofNat (128 + u % 128) :: encF f (u / 128)
/-- The bytes of a number. -/
def enc (u : Nat) : List UInt8 := encF 9 u
theorem bnd9 : bnd 9 = 18446744073709551616 := rfl
theorem bnd_pos : ∀ f, 2 ≤ bnd f
  | 0 => Nat.le_refl _
  | f + 1 => by have := bnd_pos f; simp only [bnd]; omega
theorem encF_small {f u : Nat} (h : u < 128) : encF f u = [UInt8.ofNat u] := by
  cases f with
  | zero => rfl
  | succ f => simp [encF, h]
theorem encF_big {f u : Nat} (h : ¬ u < 128) : encF (f + 1) u = UInt8.ofNat (128 + u % 128) :: encF f (u / 128) := by simp [encF, h]
theorem encF_len : ∀ (f u : Nat), 1 ≤ (encF f u).length ∧ (encF f u).length ≤ f + 1
  | 0, u => by simp [encF]
  | f + 1, u => by
    by_cases h : u < 128
    · rw [encF_small h]; simp
    · rw [encF_big h]
      have := encF_len f (u / 128)
      simp; omega

/-! ### reading -/
/-- From place i on, so much read: the number, its size, the fault (10: not in form, 15: at its end). -/
def decF (i acc : Nat) : List UInt8 → Nat × Nat × Nat
  | [] => (0, 0, 15)
  | c :: r => if (c.toNat = 0 ∧ 0 < i) ∨ (1 < c.toNat ∧ i = 9) then (0, 0, 10) else if c.toNat < 128 then (acc + c.toNat * 128 ^ i, i + 1, 0) else decF (i + 1) (acc + c.toNat % 128 * 128 ^ i) r
def dec (l : List UInt8) : Nat × Nat × Nat := decF 0 0 l

theorem ofNat_toNat {u : Nat} (h : u < 256) : (UInt8.ofNat u).toNat = u := by rw [UInt8.toNat_ofNat']; exact Nat.mod_eq_of_lt h
/-- What is written is read, whatever follows. -/
theorem dec_encF : ∀ (f i acc u : Nat) (r : List UInt8), i + f = 9 → u < bnd f → (0 < i → 0 < u) → decF i acc (encF f u ++ r) = (acc + u * 128 ^ i, i + (encF f u).length, 0)
  | 0, i, acc, u, r, hi, hu, h0 => by
    have hu2 : u < 2 := hu
    simp only [encF, List.cons_append, List.nil_append, decF, List.length_cons, List.length_nil]
    rw [ofNat_toNat (by omega), if_neg (by omega), if_pos (by omega)]
  | f + 1, i, acc, u, r, hi, hu, h0 => by
    by_cases h : u < 128
    · rw [encF_small h]
      simp only [List.cons_append, List.nil_append, decF, List.length_cons, List.length_nil]
      rw [ofNat_toNat (by omega), if_neg (by omega), if_pos (by omega)]
    · rw [encF_big h]
      simp only [List.cons_append, decF, List.length_cons]
      rw [ofNat_toNat (by omega), if_neg (by omega), if_neg (by omega), dec_encF f (i + 1) _ (u / 128) r (by omega) (by simp only [bnd] at hu; omega) (by omega)]
      have e1 : (128 + u % 128) % 128 = u % 128 := by omega
      rw [e1, Nat.add_assoc acc, Nat.pow_succ]
      have e2 : u % 128 * 128 ^ i + u / 128 * (128 ^ i * 128) = u * 128 ^ i := by
        rw [Nat.mul_comm (128 ^ i) 128, ← Nat.mul_assoc, ← Nat.add_mul, Nat.mod_add_div' u 128]
      rw [e2]
      simp only [Prod.mk.injEq, and_true, true_and]
      omega
theorem dec_enc {u : Nat} (h : u < 18446744073709551616) (r : List UInt8) : dec (enc u ++ r) = (u, (enc u).length, 0) := by
  have := dec_encF 9 0 0 u r rfl (by rw [bnd9]; exact h) (by omega)
  simpa [dec, enc] using this

/-- What is read is just what is written of it. -/
theorem enc_of_dec : ∀ (l : List UInt8) (i acc v s : Nat), i ≤ 9 → decF i acc l = (v, s, 0) →
    ∃ u, v = acc + u * 128 ^ i ∧ i < s ∧ s ≤ i + l.length ∧ s ≤ 10 ∧ encF (9 - i) u = l.take (s - i) ∧ u < bnd (9 - i) ∧ (0 < i → 0 < u)
  | [], i, acc, v, s, hi, h => by simp [decF] at h
  | c :: r, i, acc, v, s, hi, h => by
    have hc := c.toNat_lt
    simp only [decF] at h
    by_cases h1 : (c.toNat = 0 ∧ 0 < i) ∨ (1 < c.toNat ∧ i = 9)
    · rw [if_pos h1] at h; simp at h
    · rw [if_neg h1] at h
      by_cases h2 : c.toNat < 128
      · rw [if_pos h2] at h
        simp only [Prod.mk.injEq, and_true] at h
        obtain ⟨rfl, rfl⟩ := h
        refine ⟨c.toNat, rfl, by omega, by simp, by omega, ?_, ?_, by omega⟩
        · rw [encF_small h2]; simp
        · rcases Nat.eq_or_lt_of_le hi with h9 | h9
          · subst h9; simp only [Nat.sub_self, bnd]; omega
          · obtain ⟨q, hq⟩ : ∃ q, 9 - i = q + 1 := ⟨9 - i - 1, by omega⟩
            rw [hq]; have := bnd_pos q; simp only [bnd]; omega
      · rw [if_neg h2] at h
        have h9 : i ≠ 9 := by omega
        obtain ⟨u, hv, h3, h4, h5, h6, h7, h8⟩ := enc_of_dec r (i + 1) _ v s (by omega) h
        obtain ⟨q, hq⟩ : ∃ q, 9 - i = q + 1 := ⟨9 - i - 1, by omega⟩
        have hq2 : 9 - (i + 1) = q := by omega
        rw [hq2] at h6 h7
        have hu := h8 (by omega)
        refine ⟨c.toNat % 128 + 128 * u, ?_, by omega, by simp only [List.length_cons]; omega, h5, ?_, ?_, by omega⟩
        · rw [hv, Nat.add_assoc]
          congr 1
          rw [Nat.add_mul, Nat.pow_succ, Nat.mul_comm 128 u, Nat.mul_assoc, Nat.mul_comm 128]
        · rw [hq, encF_big (by omega)]
          have e1 : (c.toNat % 128 + 128 * u) / 128 = u := by omega
          have e2 : 128 + (c.toNat % 128 + 128 * u) % 128 = c.toNat := by omega
          rw [e1, e2, h6]
          have e3 : s - i = (s - (i + 1)) + 1 := by omega
          rw [e3, List.take_succ_cons]
          congr 1
          simp
        · rw [hq]; simp only [bnd]; omega
/-- A part of what is written, cut off ahead of its end, is read as such. -/
theorem dec_cut : ∀ (f i acc u k : Nat), i + f = 9 → u < bnd f → (0 < i → 0 < u) → k < (encF f u).length → decF i acc ((encF f u).take k) = (0, 0, 15)
  | f, i, acc, u, 0, _, _, _, _ => by simp [decF]
  | 0, i, acc, u, k + 1, _, _, _, hk => by simp [encF] at hk
  | f + 1, i, acc, u, k + 1, hi, hu, h0, hk => by
    by_cases h : u < 128
    · rw [encF_small h] at hk; simp at hk
    · rw [encF_big h] at hk ⊢
      simp only [List.take_succ_cons, decF]
      rw [ofNat_toNat (by omega), if_neg (by omega), if_neg (by omega)]
      exact dec_cut f (i + 1) _ (u / 128) k (by omega) (by simp only [bnd] at hu; omega) (by omega) (by simpa using hk)
theorem dec_bounds : ∀ (l : List UInt8) (i acc v s e : Nat), i ≤ 9 → acc < 128 ^ i → decF i acc l = (v, s, e) → v < 18446744073709551616 ∧ s ≤ i + l.length ∧ (e = 0 ∨ e = 10 ∨ e = 15) ∧ (e ≠ 0 → v = 0 ∧ s = 0) ∧ s ≤ 10
  | [], i, acc, v, s, e, hi, ha, h => by
    simp only [decF, Prod.mk.injEq] at h
    obtain ⟨rfl, rfl, rfl⟩ := h
    simp
  | c :: r, i, acc, v, s, e, hi, ha, h => by
    have hc := c.toNat_lt
    simp only [decF] at h
    by_cases h1 : (c.toNat = 0 ∧ 0 < i) ∨ (1 < c.toNat ∧ i = 9)
    · rw [if_pos h1] at h
      simp only [Prod.mk.injEq] at h
      obtain ⟨rfl, rfl, rfl⟩ := h
      simp
    · rw [if_neg h1] at h
      by_cases h2 : c.toNat < 128
      · rw [if_pos h2] at h
        simp only [Prod.mk.injEq] at h
        obtain ⟨rfl, rfl, rfl⟩ := h
        refine ⟨?_, by simp, by simp, by simp, by omega⟩
        have hp : 128 ^ i ≤ 128 ^ 9 := Nat.pow_le_pow_right (by omega) hi
        rcases Nat.eq_or_lt_of_le hi with h9 | h9
        · subst h9
          have : c.toNat ≤ 1 := by omega
          have h3 : c.toNat * 128 ^ 9 ≤ 1 * 128 ^ 9 := Nat.mul_le_mul_right _ this
          have h4 : (128 : Nat) ^ 9 = 9223372036854775808 := rfl
          omega
        · have hp : 128 ^ i ≤ 128 ^ 8 := Nat.pow_le_pow_right (by omega) (by omega)
          have h3 : c.toNat * 128 ^ i ≤ 127 * 128 ^ 8 := Nat.mul_le_mul (by omega) hp
          have h4 : (128 : Nat) ^ 8 = 72057594037927936 := rfl
          omega
      · rw [if_neg h2] at h
        have h9 : i ≠ 9 := by omega
        have ha' : acc + c.toNat % 128 * 128 ^ i < 128 ^ (i + 1) := by
          rw [Nat.pow_succ]
          have h3 : c.toNat % 128 * 128 ^ i ≤ 127 * 128 ^ i := Nat.mul_le_mul_right _ (by omega)
          omega
        have := dec_bounds r (i + 1) _ v s e (by omega) ha' h
        simp only [List.length_cons]
        omega
end Go.Proofs.Ytbjmdnemeidpjaa
/- code.put, code.first, code.count. -/
namespace Go.Proofs.Ytbjmdnemeidpjaa
open Go.RowKit
set_option linter.unusedVariables false
set_option linter.unusedSimpArgs false

theorem or128 : ∀ n : Nat, n < 256 → n ||| 128 = 128 + n % 128 := by decide +kernel
theorem spell_more (u : Nat) : bits BinOp.or IntKind.u8 ((u : Int) % 256) 128 = (((UInt8.ofNat (128 + u % 128)).toNat : Nat) : Int) := by
  have h := u8_or_nat (u % 256) 128 (by omega) (by omega)
  rw [or128 _ (by omega)] at h
  have e : (((u % 256 : Nat)) : Int) = (u : Int) % 256 := by omega
  rw [e] at h
  rw [UInt8.toNat_ofNat', Nat.mod_eq_of_lt (by omega)]
  rw [show 128 + u % 128 = 128 + u % 256 % 128 from by omega]
  exact h
theorem spell_last (u : Nat) (h : u < 128) : (u : Int) = (((UInt8.ofNat u).toNat : Nat) : Int) := by rw [ofNat_toNat (by omega)]
set_option maxRecDepth 100000 in
theorem put_any (v : Value) (n : Nat) (l : List UInt8) (u lo : Nat) (w : World) (hown : Ow w lo 5 1 v n (l.map bv)) (hlo : lo ≤ w.heap.size) (hu : u < 18446744073709551616) (hn : n ≤ 70368744175616) :
    Calls Try.prog 101 #[v, .int .u64 u] w fun e w' => ∃ v', e = .returned v' ∧ Ow w' lo 5 1 v' (n + (enc u).length) ((l ++ enc u).map bv) ∧ Below lo w w' := by
  obtain ⟨i0, hi0, hz0, hz1, hz2⟩ := info_parts Try.info8
  have hl := hown.1
  simp only [List.length_map, Nat.mul_one] at hl
  have HU := hide hu
  clear hu
  go_enter Try.func101, Try.ntmps101
  go_wp2
  go_loopw [0, 1] (fun v x wr => ∃ (f q m : Nat) (acc : List UInt8), x = .int .u64 q ∧ q < bnd f ∧ f ≤ 9 ∧ m + f + 1 ≤ n + 10 ∧ Ow wr lo 5 1 v m (acc.map bv) ∧ Hid (acc ++ encF f q = l ++ enc u) ∧ Below lo w wr) (fun _ x _ => (intOf x).toNat)
  case atStart => exact ⟨9, u, n, l, rfl, by rw [bnd9]; exact HU.out, by omega, by omega, hown, hide rfl, Below.refl _ _⟩
  case round =>
    obtain ⟨f, q, m, acc, rfl, hq, hf, hm, own, HE, hb⟩ := hrel
    by_cases h : q < 128
    · have he := HE.out
      rw [encF_small h] at he
      have HE2 := hide he
      clear he
      have hsp := spell_last q h
      have HS := hide hsp
      clear hsp
      have hcell : Rd (wr.alloc (.cells #[.int .u8 q] 5)) (wr.heap.size + 1) 1 (some ⟨wr.heap.size, 0, none⟩) 1 ([UInt8.ofNat q].map bv) := by
        rw [HS.out]
        exact RdB.lit wr [UInt8.ofNat q] 5 (0, 0) 1 rfl
      go_wp2_with (at_builtin; refine wpList_append_ow _ rfl (.tmp 15) (.tmp 18) _ rfl lo 5 i0 _ 1 1 Try.underlying67 hi0 hz0 hz1 hz2 rfl (by omega) _ m (acc.map bv) rfl (own.alloc _) (wr.heap.size + 1) (some ⟨wr.heap.size, 0, none⟩) 1 1 _ rfl hcell (bvs_one _) (by simp only [maxLen]; omega) (by omega) (by have := hb.size; simp; omega) ?_; intro v1 w1 hown1 hg1 hat1 hnn1)
      go_ret
      have hsum : m + 1 = n + (enc u).length := by
        have h1 := congrArg List.length HE2.out
        have h2 := own.1
        simp only [List.length_append, List.length_cons, List.length_nil, List.length_map, Nat.mul_one] at h1 h2
        omega
      refine ⟨_, rfl, ?_, (hb.alloc (by have := hb.size; omega) _).grown hg1 (by have := hb.size; simp; omega) (fun k hk => own.lt k hk)⟩
      rw [← HE2.out, ← hsum, List.map_append]
      exact hown1
    · match f with
      | 0 => simp only [bnd] at hq; omega
      | f + 1 =>
        have he := HE.out
        rw [encF_big h] at he
        have HE2 := hide he
        clear he HE
        have HQ := hide hq
        clear hq
        have hsp := spell_more q
        have hcell : Rd (wr.alloc (.cells #[.int .u8 ((UInt8.ofNat (128 + q % 128)).toNat : Nat)] 5)) (wr.heap.size + 1) 1 (some ⟨wr.heap.size, 0, none⟩) 1 ([UInt8.ofNat (128 + q % 128)].map bv) :=
          RdB.lit wr [UInt8.ofNat (128 + q % 128)] 5 (0, 0) 1 rfl
        generalize UInt8.ofNat (128 + q % 128) = y at hsp hcell HE2
        go_wp2_with (at_builtin; refine wpList_append_ow _ rfl (.tmp 9) (.tmp 13) _ rfl lo 5 i0 _ 1 1 Try.underlying67 hi0 hz0 hz1 hz2 rfl (by omega) _ m (acc.map bv) rfl (own.alloc _) (wr.heap.size + 1) (some ⟨wr.heap.size, 0, none⟩) 1 1 _ rfl hcell (bvs_one _) (by simp only [maxLen]; omega) (by omega) (by have := hb.size; simp; omega) ?_; intro v1 w1 hown1 hg1 hat1 hnn1)
        go_roundw
        case rel => exact ⟨f, q / 128, m + 1, acc ++ [y], by go_num, by have := HQ.out; simp only [bnd] at this; omega, by omega, by omega, by rw [List.map_append]; exact hown1, hide (by rw [List.append_assoc]; exact HE2.out), (hb.alloc (by have := hb.size; omega) _).grown hg1 (by have := hb.size; simp; omega) (fun k hk => own.lt k hk)⟩
        case measure => simp [intOf]; omega
end Go.Proofs.Ytbjmdnemeidpjaa
/- code.first, code.count. -/
namespace Go.Proofs.Ytbjmdnemeidpjaa
open Go.RowKit
set_option linter.unusedVariables false
set_option linter.unusedSimpArgs false

theorem pow7 (k : Nat) : (2 : Nat) ^ (7 * k) = 128 ^ k := by rw [Nat.pow_mul]
theorem spell_gather (a m k : Nat) (ha : a < 128 ^ k) (hk : k ≤ 9) (hm : m < 128) (h9 : k = 9 → m ≤ 1) :
    bits BinOp.or IntKind.u64 (a : Int) (IntKind.u64.wrap ((m : Int) * 2 ^ (7 * k))) = ((a + m * 128 ^ k : Nat) : Int) ∧ a + m * 128 ^ k < 18446744073709551616 := by
  have hp : (2 : Nat) ^ (7 * k) = 128 ^ k := pow7 k
  have hle : (128 : Nat) ^ k ≤ 128 ^ 9 := Nat.pow_le_pow_right (by omega) hk
  have h9' : (128 : Nat) ^ 9 = 9223372036854775808 := rfl
  have hb : a + m * 128 ^ k < 18446744073709551616 ∧ m * 128 ^ k < 18446744073709551616 := by
    rcases Nat.eq_or_lt_of_le hk with h | h
    · subst h
      have h3 : m * 128 ^ 9 ≤ 1 * 128 ^ 9 := Nat.mul_le_mul_right _ (h9 rfl)
      omega
    · have h8 : (128 : Nat) ^ k ≤ 128 ^ 8 := Nat.pow_le_pow_right (by omega) (by omega)
      have h8' : (128 : Nat) ^ 8 = 72057594037927936 := rfl
      have h3 : m * 128 ^ k ≤ 127 * 128 ^ 8 := Nat.mul_le_mul (by omega) h8
      omega
  refine ⟨?_, hb.1⟩
  have e : (m : Int) * 2 ^ (7 * k) = ((m * 128 ^ k : Nat) : Int) := by rw [← hp]; simp
  rw [e, u64_wrap, show ((m * 128 ^ k : Nat) : Int) % 18446744073709551616 = ((m * 128 ^ k : Nat) : Int) from by omega]
  rw [u64_or_nat _ _ (by omega) (by omega)]
  congr 1
  have := Nat.two_pow_add_eq_or_of_lt (b := a) (i := 7 * k) (by rw [hp]; exact ha) m
  rw [hp] at this
  rw [Nat.or_comm, Nat.mul_comm m, ← this, Nat.add_comm]

set_option maxHeartbeats 400000 in
set_option maxRecDepth 100000 in
theorem first_any (A : Option Addr) (n c : Nat) (l : List UInt8) (w : World) (hr : RdB w w.heap.size A n l) (hn : n ≤ 140737488351232) :
    Calls Try.prog 97 #[.slice A n c] w fun e w' => e = .returned (.tuple #[.int .u64 (dec l).1, .int .i64 (dec l).2.1, .int .i64 (dec l).2.2]) ∧ w = w' := by
  have hlen := RdB.len hr
  have HLEN := hide hlen
  clear hlen
  go_enter Try.func97, Try.ntmps97
  go_wp2
  go_loop [2, 3, 4, 5, 6, 7, 10] (fun s2 s3 s4 acc _ _ i => ∃ k a : Nat, k ≤ n ∧ k ≤ 9 ∧ i = .int .i64 k ∧ acc = .int .u64 a ∧ s2 = .int .u64 0 ∧ s3 = .int .i64 0 ∧ s4 = .int .i64 0 ∧ Hid (decF k a (l.drop k) = dec l) ∧ Hid (a < 128 ^ k)) (fun _ _ _ _ _ _ i => n - (intOf i).toNat)
  case atStart => exact ⟨0, 0, by omega, by omega, rfl, rfl, rfl, rfl, rfl, hide rfl, hide (by simp)⟩
  case round =>
    obtain ⟨k, a, hk, hk10, rfl, rfl, rfl, rfl, rfl, HD, HA⟩ := hrel
    by_cases hk1 : k < n
    · obtain ⟨b, off, rfl, hb, hc⟩ := RdB.cell hr hk1
      have hkl : k < l.length := by rw [HLEN.out]; exact hk1
      have hd := HD.out
      rw [List.drop_eq_getElem_cons hkl] at hd
      have HL := hide hkl
      clear HD
      generalize l[k] = x at hc hd
      have hx := x.toNat_lt
      simp only [decF] at hd
      have HD := hide hd
      clear hd hkl
      by_cases h0 : x.toNat = 0
      · have e0 : ((x.toNat : Int) == 0) = true := by rw [h0]; rfl
        by_cases hkk : 0 < k
        · have HR := HD.out
          rw [if_pos (.inl ⟨h0, hkk⟩)] at HR
          have HX := hide HR
          have h1k := hide h0
          clear h0 HR HD
          go_wp2
          go_ret3
          rw [← HX.out]
          exact ⟨rfl, rfl⟩
        · have HR := HD.out
          rw [if_neg (by omega), if_pos (by omega)] at HR
          have HX := hide HR
          have hlt : x.toNat < 128 := by omega
          have hg := (spell_gather a x.toNat k HA.out (by omega) hlt (by omega)).1
          have hx1 : x.toNat ≤ 1 := by omega
          have HG := hide hg
          clear h0 HR HD hg
          go_wp2
          go_ret3
          rw [← HX.out]
          exact ⟨by rw [← HG.out, show ((x.toNat : Int) % 128) = (x.toNat : Int) from by omega]; simp, rfl⟩
      · have e0 : ((x.toNat : Int) == 0) = false := by simp; omega
        have E0 := hide h0
        clear h0
        by_cases h128 : x.toNat < 128
        · by_cases h91 : k = 9 ∧ 1 < x.toNat
          · obtain ⟨h9, h1⟩ := h91
            have e9 : ((k : Int) == 9) = true := by rw [h9]; rfl
            have HR := HD.out
            rw [if_pos (.inr ⟨h1, h9⟩)] at HR
            have HX := hide HR
            clear h9 HR HD
            go_wp2
            go_ret3
            rw [← HX.out]
            exact ⟨rfl, rfl⟩
          · have HR := HD.out
            rw [if_neg (by have := E0.out; omega), if_pos h128] at HR
            have HX := hide HR
            have hg := (spell_gather a x.toNat k HA.out (by omega) h128 (by omega)).1
            have HG := hide hg
            clear HR HD hg
            by_cases h9 : k = 9
            · have e9 : ((k : Int) == 9) = true := by rw [h9]; rfl
              have h1 : x.toNat ≤ 1 := by omega
              clear h9 h91
              go_wp2
              go_ret3
              rw [← HX.out]
              exact ⟨by rw [← HG.out, show ((x.toNat : Int) % 128) = (x.toNat : Int) from by omega]; simp, rfl⟩
            · have e9 : ((k : Int) == 9) = false := by simp; omega
              clear h91
              by_cases h1 : 1 < x.toNat
              all_goals
                go_wp2
                go_ret3
                rw [← HX.out]
                exact ⟨by rw [← HG.out, show ((x.toNat : Int) % 128) = (x.toNat : Int) from by omega]; simp, rfl⟩
        · by_cases h9 : k = 9
          · have e9 : ((k : Int) == 9) = true := by rw [h9]; rfl
            have HR := HD.out
            rw [if_pos (.inr ⟨by omega, h9⟩)] at HR
            have HX := hide HR
            have h1 : 1 < x.toNat := by omega
            clear h9 HR HD
            go_wp2
            go_ret3
            rw [← HX.out]
            exact ⟨rfl, rfl⟩
          · have e9 : ((k : Int) == 9) = false := by simp; omega
            have HR := HD.out
            rw [if_neg (by have := E0.out; omega), if_neg h128] at HR
            have HX := hide HR
            have h1 : 1 < x.toNat := by omega
            obtain ⟨hg, hg2⟩ := spell_gather a (x.toNat % 128) k HA.out (by omega) (by omega) (by omega)
            have HG := hide hg
            clear HR HD hg hg2
            go_wp2
            go_round
            case rel =>
              refine ⟨k + 1, a + x.toNat % 128 * 128 ^ k, by omega, by omega, by go_num, ?_, rfl, rfl, rfl, HX, hide ?_⟩
              · rw [← HG.out]; simp
              · have := HA.out
                rw [Nat.pow_succ]
                have h3 : x.toNat % 128 * 128 ^ k ≤ 127 * 128 ^ k := Nat.mul_le_mul_right _ (by omega)
                omega
            case measure => simp [intOf]; omega
    · go_wp2
      go_ret3
      have h := HD.out
      rw [List.drop_of_length_le (by have := HLEN.out; omega)] at h
      rw [← h]
      exact ⟨rfl, rfl⟩
end Go.Proofs.Ytbjmdnemeidpjaa
/- code.count, and the Reader's methods. -/
namespace Go.Proofs.Ytbjmdnemeidpjaa
open Go.RowKit
set_option linter.unusedVariables false
set_option linter.unusedSimpArgs false

def cnt (l : List UInt8) (most : Int) : Nat × Nat × Nat := if (dec l).2.2 ≠ 0 then (0, 0, (dec l).2.2) else if max most 0 < (dec l).1 then (0, 0, 17) else dec l
theorem cnt_bounds (l : List UInt8) (most : Int) : ((cnt l most).1 : Int) ≤ max most 0 ∧ (cnt l most).2.1 ≤ l.length ∧ (cnt l most).2.1 ≤ 10 ∧ (cnt l most).2.2 ≤ 17 := by
  have h := dec_bounds l 0 0 (dec l).1 (dec l).2.1 (dec l).2.2 (by omega) (by simp) rfl
  unfold cnt
  split
  · simp; omega
  · split
    · simp; omega
    · omega

set_option maxHeartbeats 400000 in
set_option maxRecDepth 100000 in
theorem count_any (A : Option Addr) (n c : Nat) (l : List UInt8) (most : Int) (w : World) (hr : RdB w w.heap.size A n l) (hn : n ≤ 140737488351232) (hm : most ≤ 9223372036854775807) :
    Calls Try.prog 100 #[.slice A n c, .int .i64 most] w fun e w' => e = .returned (.tuple #[.int .i64 (cnt l most).1, .int .i64 (cnt l most).2.1, .int .i64 (cnt l most).2.2]) ∧ w = w' := by
  have hb := dec_bounds l 0 0 (dec l).1 (dec l).2.1 (dec l).2.2 (by omega) (by simp) rfl
  obtain ⟨_, hb2, hb3, hb4, hb5⟩ := hb
  have HF := hide (first_any A n c l w hr hn)
  have HC := hide (show cnt l most = if (dec l).2.2 ≠ 0 then (0, 0, (dec l).2.2) else if max most 0 < (dec l).1 then (0, 0, 17) else dec l from rfl)
  generalize hcnt : cnt l most = C at *
  clear hcnt
  generalize dec l = d at *
  obtain ⟨u, s, er⟩ := d
  simp only at HF HC hb2 hb3 hb4 hb5 ⊢
  have HM := hide hm
  clear hm
  by_cases h0 : er = 0
  · have he : ((er : Int) != 0) = false := by rw [h0]; rfl
    have HE := hide h0
    clear h0 hb3 hb4
    have hcc := HC.out
    rw [if_neg (by simp [HE.out])] at hcc
    have HCC := hide hcc
    clear hcc HC
    have HU := hide (show IntKind.u64.wrap (max most 0) = max most 0 from by have := HM.out; rw [u64_wrap]; omega)
    by_cases hneg : most < 0
    · have hmx : max most 0 = 0 := by omega
      have hu0 := HU.out
      rw [hmx] at hu0
      have HCM := HCC.out
      rw [hmx] at HCM
      clear HCC
      by_cases hu : 0 < u
      · rw [if_pos (by omega)] at HCM
        rw [HCM]
        clear HCM
        go_enter Try.func100, Try.ntmps100
        go_wp2_with (go_at_call 97; refine HF.out.mono ?_; rintro e w' ⟨rfl, rfl⟩)
        go_ret3
        exact ⟨rfl, rfl⟩
      · rw [if_neg (by omega)] at HCM
        rw [HCM, HE.out]
        clear HCM
        have huw : IntKind.i64.wrap (u : Int) = u := by rw [IntKind.wrap_i64]; omega
        go_enter Try.func100, Try.ntmps100
        go_wp2_with (go_at_call 97; refine HF.out.mono ?_; rintro e w' ⟨rfl, rfl⟩)
        go_ret3
        exact ⟨by simp [huw], rfl⟩
    · have hmx : max most 0 = most := by omega
      have hu0 := HU.out
      rw [hmx] at hu0
      have HCM := HCC.out
      rw [hmx] at HCM
      clear HCC
      by_cases hu : most < (u : Int)
      · rw [if_pos (by omega)] at HCM
        rw [HCM]
        clear HCM
        go_enter Try.func100, Try.ntmps100
        go_wp2_with (go_at_call 97; refine HF.out.mono ?_; rintro e w' ⟨rfl, rfl⟩)
        all_goals
          go_ret3
          exact ⟨rfl, rfl⟩
      · rw [if_neg (by omega)] at HCM
        rw [HCM, HE.out]
        clear HCM
        have huw : IntKind.i64.wrap (u : Int) = u := by have := HM.out; rw [IntKind.wrap_i64]; omega
        go_enter Try.func100, Try.ntmps100
        go_wp2_with (go_at_call 97; refine HF.out.mono ?_; rintro e w' ⟨rfl, rfl⟩)
        all_goals
          go_ret3
          exact ⟨by simp [huw], rfl⟩
  · have he : ((er : Int) != 0) = true := by simp; omega
    have hcc := HC.out
    rw [if_pos (by simpa using h0)] at hcc
    rw [hcc]
    clear h0 hb3 hb4 HC hcc
    go_enter Try.func100, Try.ntmps100
    go_wp2_with (go_at_call 97; refine HF.out.mono ?_; rintro e w' ⟨rfl, rfl⟩)
    go_ret3
    exact ⟨rfl, rfl⟩

/-! ### the Reader -/
/-- The reader at block g has the bytes l still to come, and the fault e. -/
def Rdr (w : World) (g : Nat) (l : List UInt8) (e : Nat) : Prop :=
  ∃ A n c, Blk w g 167 #[.slice A n c, .int .i64 (e : Int)] ∧ RdB w g A n l ∧ n ≤ c ∧ c ≤ maxLen ∧ n ≤ 140737488351232
def tkL (l : List UInt8) (e size er : Nat) : List UInt8 := if e = 0 ∧ er = 0 then l.drop size else l
def tkE (e er : Nat) : Nat := if e = 0 then er else e
theorem Rdr.next {w w' : World} {g e : Nat} {l : List UInt8} (h : Rdr w g l e) (hb : Below w.heap.size w w') : Rdr w' g l e := by
  obtain ⟨A, n, c, hk, hr, h1, h2, h3⟩ := h
  exact ⟨A, n, c, hk.next hb, hr.below (hb.mono (Nat.le_of_lt hk.lt)), h1, h2, h3⟩
theorem Rdr.lt {w : World} {g e : Nat} {l : List UInt8} (h : Rdr w g l e) : g < w.heap.size := by
  obtain ⟨A, n, c, hk, _⟩ := h
  exact hk.lt

theorem take_bad (g e er : Nat) (size : Int) (l : List UInt8) (w : World) (h : Rdr w g l e) (hne : ¬ (e = 0 ∧ er = 0)) :
    Calls Try.prog 98 #[.pointer (some ⟨g, 0, none⟩), .int .i64 size, .int .i64 (er : Int)] w fun x w' => x = .returned (.bool (decide (e = 0 ∧ er = 0))) ∧ Rdr w' g (tkL l e size.toNat er) (tkE e er) ∧ w.grownBy w' (some g) := by
  have h0 := h
  obtain ⟨A, n, c, hk, hr, h1, h2, h3⟩ := h
  have c0 := hk.cell 0
  have c1 := hk.cell 1
  have f0 := hk.frozen 0
  have f1 := hk.frozen 1
  simp only [List.getElem?_toArray, List.getElem?_cons_zero, List.getElem?_cons_succ] at c0 c1
  rw [decide_eq_false hne, show tkL l e size.toNat er = l from if_neg hne]
  by_cases he : e = 0
  · have b0 : ((e : Int) != 0) = false := by rw [he]; rfl
    have hr0 : er ≠ 0 := fun h => hne ⟨he, h⟩
    have b1 : ((er : Int) != 0) = true := by simp; omega
    rw [show tkE e er = er from by unfold tkE; rw [if_pos he]]
    have HE := hide he
    have HR := hide hr0
    have HK := hide hk
    have H0 := hide hr
    clear he hr0 hne h0 hk hr
    go_enter Try.func98, Try.ntmps98
    go_wp2
    go_ret
    exact ⟨rfl, ⟨A, n, c, by simpa using HK.out.set_ 1 _, H0.out.setCell (Nat.le_refl _) _, h1, h2, h3⟩, grown_set w g 1 _⟩
  · have b0 : ((e : Int) != 0) = true := by simp; omega
    rw [show tkE e er = e from by unfold tkE; rw [if_neg he]]
    clear he hne hk hr
    go_enter Try.func98, Try.ntmps98
    go_wp2
    go_ret
    exact ⟨rfl, h0, World.grownBy.refl _ _⟩
theorem take_any (g size e er : Nat) (l : List UInt8) (w : World) (h : Rdr w g l e) (hs : e = 0 → er = 0 → size ≤ l.length) :
    Calls Try.prog 98 #[.pointer (some ⟨g, 0, none⟩), .int .i64 (size : Int), .int .i64 (er : Int)] w fun x w' => x = .returned (.bool (decide (e = 0 ∧ er = 0))) ∧ Rdr w' g (tkL l e size er) (tkE e er) ∧ w.grownBy w' (some g) := by
  have h0 := h
  obtain ⟨A, n, c, hk, hr, h1, h2, h3⟩ := h
  have c0 := hk.cell 0
  have c1 := hk.cell 1
  have f0 := hk.frozen 0
  have f1 := hk.frozen 1
  have hlen := RdB.len hr
  simp only [List.getElem?_toArray, List.getElem?_cons_zero, List.getElem?_cons_succ] at c0 c1
  by_cases he : e = 0
  · have b0 : ((e : Int) != 0) = false := by rw [he]; rfl
    by_cases hr0 : er = 0
    · have b1 : ((er : Int) != 0) = false := by rw [hr0]; rfl
      have hsz := hs he hr0
      rw [hlen] at hsz
      rw [decide_eq_true ⟨he, hr0⟩, show tkL l e size er = l.drop size from if_pos ⟨he, hr0⟩, show tkE e er = e from by unfold tkE; rw [if_pos he, hr0, he]]
      have HE := hide he
      have HR := hide hr0
      have HK := hide hk
      have H0 := hide hr
      clear he hr0 hs h0 hk hr hlen
      have hcut := H0.out.cut (k := size) (cap := c) hsz h1
      rw [Nat.mul_one, ← List.map_drop] at hcut
      have hm := h2
      unfold maxLen at h2
      by_cases hcs : c = size
      · rw [if_pos hcs] at hcut
        have HCS := hide hcs
        have HCT := hide hcut
        clear hcs hcut
        have hcd : (c = size) = True := by simp [HCS.out]
        go_enter Try.func98, Try.ntmps98
        go_wp2
        go_ret
        exact ⟨rfl, ⟨A, n - size, c - size, by simpa using HK.out.set_ 0 _, HCT.out.setCell (Nat.le_refl _) _, by omega, by simp only [maxLen]; omega, by omega⟩, grown_set w g 0 _⟩
      · rw [if_neg hcs] at hcut
        have HCT := hide hcut
        clear hcut
        go_enter Try.func98, Try.ntmps98
        go_wp2
        go_ret
        exact ⟨rfl, ⟨_, n - size, c - size, by simpa using HK.out.set_ 0 _, HCT.out.setCell (Nat.le_refl _) _, by omega, by simp only [maxLen]; omega, by omega⟩, grown_set w g 0 _⟩
    · exact take_bad g e er size l w h0 (fun h => hr0 h.2)
  · exact take_bad g e er size l w h0 (fun h => he h.1)

/-! ### Uint, Count, Left, Err, End -/
def uV (l : List UInt8) (e : Nat) : Nat := if e = 0 ∧ (dec l).2.2 = 0 then (dec l).1 else 0
theorem uint_any (g e : Nat) (l : List UInt8) (w : World) (h : Rdr w g l e) :
    Calls Try.prog 64 #[.pointer (some ⟨g, 0, none⟩)] w fun x w' => x = .returned (.int .u64 (uV l e)) ∧ Rdr w' g (tkL l e (dec l).2.1 (dec l).2.2) (tkE e (dec l).2.2) ∧ w.grownBy w' (some g) := by
  have h0 := h
  obtain ⟨A, n, c, hk, hr, h1, h2, h3⟩ := h
  have c0 := hk.cell 0
  simp only [List.getElem?_toArray, List.getElem?_cons_zero, List.getElem?_cons_succ] at c0
  have hlen := RdB.len hr
  have hb := dec_bounds l 0 0 (dec l).1 (dec l).2.1 (dec l).2.2 (by omega) (by simp) rfl
  have hsz : e = 0 → (dec l).2.2 = 0 → (dec l).2.1 ≤ l.length := fun _ _ => by omega
  have HT := hide (take_any g (dec l).2.1 e (dec l).2.2 l w h0 hsz)
  have HF := hide (first_any A n c l w (hr.more (Nat.le_of_lt hk.lt)) h3)
  have HV := hide (show uV l e = if e = 0 ∧ (dec l).2.2 = 0 then (dec l).1 else 0 from rfl)
  clear hlen hb hsz hk hr h0
  generalize uV l e = V at HV
  generalize dec l = d at *
  obtain ⟨u, s, er⟩ := d
  simp only at HT HF HV ⊢
  generalize hq : decide (e = 0 ∧ er = 0) = q at HT
  have HQ := hide hq
  clear hq
  cases q with
  | true =>
    have hv := HV.out
    rw [if_pos (of_decide_eq_true HQ.out)] at hv
    rw [hv]
    clear hv
    go_enter Try.func64, Try.ntmps64
    go_wp2_with (first | (go_at_call 97; refine HF.out.mono ?_; rintro e w' ⟨rfl, rfl⟩) | (go_at_call 98; refine HT.out.mono ?_; rintro e w1 ⟨rfl, hr1, hg1⟩))
    go_ret
    exact ⟨rfl, hr1, hg1⟩
  | false =>
    have hv := HV.out
    rw [if_neg (of_decide_eq_false HQ.out)] at hv
    rw [hv]
    clear hv
    go_enter Try.func64, Try.ntmps64
    go_wp2_with (first | (go_at_call 97; refine HF.out.mono ?_; rintro e w' ⟨rfl, rfl⟩) | (go_at_call 98; refine HT.out.mono ?_; rintro e w1 ⟨rfl, hr1, hg1⟩))
    go_ret
    exact ⟨rfl, hr1, hg1⟩
end Go.Proofs.Ytbjmdnemeidpjaa
