/- Parts CeF, CeG, CeH, EqS, CeI, CeJ, CeK, CeG0, Mp, Mn of the proof, put together. -/
import Derived.Test.YtbjmdnemeidpjaaGreatM9
import Derived.DeepKeys
import Derived.MapKept
import Derived.WideKeyRuns
/- Right of a cell. -/
namespace Go.Proofs.YtbjmdnemeidpjaaGreat
set_option linter.unusedSimpArgs false
set_option linter.unusedVariables false
open Go.RowKit
set_option maxRecDepth 100000
theorem right_no {c : Cel} (h : ¬ (0 ≤ c.n ∧ 0 ≤ c.ce ∧ 0 ≤ c.po ∧ c.mn ≤ c.mx)) : rightC c = false := by
  unfold rightC
  rw [decide_eq_false h]
  rfl
theorem right_no2 {c : Cel} (h : okH c.h = false) : rightC c = false := by
  unfold rightC
  rw [h, Bool.and_false]
  rfl
theorem right_no3 {c : Cel} (h : ¬ c.h.sum = c.n) : rightC c = false := by
  unfold rightC
  rw [decide_eq_false h, Bool.and_false]
  rfl
theorem right_zero {c : Cel} (h : 0 ≤ c.n ∧ 0 ≤ c.ce ∧ 0 ≤ c.po ∧ c.mn ≤ c.mx) (h2 : okH c.h = true) (h3 : c.h.sum = c.n) (h4 : c.n = 0) : rightC c = decide (c.s = 0 ∧ c.mn = 0 ∧ c.mx = 0) := by
  unfold rightC
  rw [decide_eq_true h, h2, decide_eq_true h3, if_pos h4]
  rfl
theorem right_some {c : Cel} (h : 0 ≤ c.n ∧ 0 ≤ c.ce ∧ 0 ≤ c.po ∧ c.mn ≤ c.mx) (h2 : okH c.h = true) (h3 : c.h.sum = c.n) (h4 : ¬ c.n = 0) : rightC c = (decide (hAt c.h (bkt c.mn) ≠ 0 ∧ hAt c.h (bkt c.mx) ≠ 0) && inB c) := by
  unfold rightC
  rw [decide_eq_true h, h2, decide_eq_true h3, if_neg h4]
  rfl
theorem at_h {c : Cel} (hl : c.h.length = 65) {k : Nat} (hk : k < 65) : List.drop (0 + 7 + k * 1) (cR c) = iD (hAt c.h k) :: (hR c.h).drop (k + 1) := by
  have e : List.drop (0 + 7 + k * 1) (cR c) = (hR c.h).drop (0 + k * 1) := by
    rw [show 0 + 7 + k * 1 = k + 7 by omega, show 0 + k * 1 = k by omega]; rfl
  rw [e]
  refine drop_row ?_
  unfold hAt
  rw [List.getElem?_eq_getElem (by omega)]
  rfl
theorem wof_sat (v : Int) (h : in64 v) : Sat Tryz.prog 53 [iA v] [] (.d (wD v)) [] :=
  .of_calls (.cons (.d (.v _)) .nil) (.d (wD_flat _)) fun w => wideOf_any v w h.1 h.2
theorem wd_beq (a b : Int) : (hiZ a == hiZ b && loZ a == loZ b) = decide (a = b) := by
  rw [Bool.eq_iff_iff]
  simp only [Bool.and_eq_true, beq_iff_eq, decide_eq_true_eq]
  unfold hiZ loZ word
  omega
theorem no_way {a b : Int} (h : a = b) (q : (!(hiZ a == hiZ b && loZ a == loZ b)) = true) : False := by rw [wd_beq, decide_eq_true h] at q; exact Bool.noConfusion q
theorem no_way2 {a b : Int} (h : ¬ a = b) (q : (!(hiZ a == hiZ b && loZ a == loZ b)) = false) : False := by rw [wd_beq, decide_eq_false h] at q; exact Bool.noConfusion q
theorem zz1 {c : Cel} (h : (hiZ c.s == 0 && loZ c.s == 0) = true) (h2 : (c.mn == 0) = true) : decide (c.s = 0 ∧ c.mn = 0 ∧ c.mx = 0) = (c.mx == 0) := by
  have e := wd_beq c.s 0
  have e : (hiZ c.s == 0 && loZ c.s == 0) = decide (c.s = 0) := e
  rw [e] at h
  rw [Bool.eq_iff_iff]
  simp only [decide_eq_true_eq, beq_iff_eq] at *
  omega
theorem zz2 {c : Cel} (h2 : (c.mn == 0) = false) : decide (c.s = 0 ∧ c.mn = 0 ∧ c.mx = 0) = false := by
  simp only [beq_eq_false_iff_ne, ne_eq] at h2
  exact decide_eq_false (by omega)
theorem zz3 {c : Cel} (h : (hiZ c.s == 0 && loZ c.s == 0) = false) : decide (c.s = 0 ∧ c.mn = 0 ∧ c.mx = 0) = false := by
  have e : (hiZ c.s == 0 && loZ c.s == 0) = decide (c.s = 0) := wd_beq c.s 0
  rw [e] at h
  have := of_decide_eq_false h
  exact decide_eq_false (by omega)
theorem rr1 {c : Cel} (h : (hAt c.h (bkt c.mn) == 0) = true) : (decide (hAt c.h (bkt c.mn) ≠ 0 ∧ hAt c.h (bkt c.mx) ≠ 0) && inB c) = false := by
  have h := eq_of_beq h
  rw [decide_eq_false (fun q => q.1 h)]; rfl
theorem rr2 {c : Cel} (h : (hAt c.h (bkt c.mx) == 0) = true) : (decide (hAt c.h (bkt c.mn) ≠ 0 ∧ hAt c.h (bkt c.mx) ≠ 0) && inB c) = false := by
  have h := eq_of_beq h
  rw [decide_eq_false (fun q => q.2 h)]; rfl
theorem rr3 {c : Cel} (h : (hAt c.h (bkt c.mn) == 0) = false) (h2 : (hAt c.h (bkt c.mx) == 0) = false) : (decide (hAt c.h (bkt c.mn) ≠ 0 ∧ hAt c.h (bkt c.mx) ≠ 0) && inB c) = inB c := by
  rw [decide_eq_true ⟨by simpa using h, by simpa using h2⟩]; rfl
theorem inB_no {c : Cel} {b : Nat} (hb : b < 65) (h : hAt c.h b ≠ 0) (h2 : b < bkt c.mn ∨ bkt c.mx < b) : inB c = false := by
  rw [← Bool.not_eq_true]
  intro q
  have := of_decide_eq_true (List.all_eq_true.1 q b (List.mem_range.2 hb))
  omega
theorem inB_yes {c : Cel} (h : ∀ b, b < 65 → hAt c.h b ≠ 0 → bkt c.mn ≤ b ∧ b ≤ bkt c.mx) : inB c = true := by
  refine List.all_eq_true.2 fun b hb => decide_eq_true ?_
  by_cases q : hAt c.h b = 0
  · exact .inl q
  · exact .inr (h b (List.mem_range.1 hb) q)
theorem l27 : (tiOf Tryz.prog 39).len = 65 := by kernel_rfl
set_option maxHeartbeats 4000000 in
theorem right_sat_c (c : Cel) (hc : CelOK c) : Sat Tryz.prog 36 [.d (cD c)] [] (bA (rightC c)) [] := by
  have hl := hc.hl
  have hx := hc.hx
  have t1 := total_sat c.h hl hx
  have b1 := bucket_sat c.mn hc.mn
  have b2 := bucket_sat c.mx hc.mx
  have f1 := full_sat c.h
  have w1 := wof_sat c.n hc.n
  have k1 := bkt_lt c.mn hc.mn.2
  have k2 := bkt_lt c.mx hc.mx.2
  refine sat_of_vc (T := tiOf Tryz.prog) (E := E0) Tryz.func36 rfl rfl hE0 hm0 rfl ?_
  conv => whnf
  by_cases h0 : 0 ≤ c.n ∧ 0 ≤ c.ce ∧ 0 ≤ c.po ∧ c.mn ≤ c.mx
  case neg =>
    rw [right_no h0]
    iterate 2
      repeat' (first | exact True.intro | ((first | refine ⟨_, drop_id, ?_⟩ | refine ⟨_, _, at_n, ?_⟩ | refine ⟨_, _, at_hi, ?_⟩ | refine ⟨_, _, at_lo, ?_⟩ | refine ⟨_, _, at_mn, ?_⟩ | refine ⟨_, _, at_mx, ?_⟩ | refine ⟨_, _, at_ce, ?_⟩ | refine ⟨_, _, at_po, ?_⟩ | refine ⟨_, whole_z sC, clenz sC, ?_⟩ | refine ⟨_, setzC, ?_⟩ | refine And.intro (clenz sC) ?_ | refine And.intro fitzC ?_ | refine ⟨_, whole_cell sC hl, clen sC hl, ?_⟩ | refine And.intro (clen sC hl) ?_ | refine And.intro (fitC hl) ?_ | refine ⟨_, setC hl, ?_⟩ | refine ⟨_, whole_z sF, clenz sF, ?_⟩ | refine ⟨_, setzF, ?_⟩ | refine And.intro (clenz sF) ?_ | refine And.intro fitzF ?_ | refine ⟨_, whole_cell sF hl, clen sF hl, ?_⟩ | refine And.intro (clen sF hl) ?_ | refine And.intro (fitF hl) ?_ | refine ⟨_, setF hl, ?_⟩ | refine And.intro (fit1 hl (by decide)) ?_ | refine And.intro (fit1 rfl (by decide)) ?_ | refine ⟨_, sum_cell s25, rfl, ?_⟩ | refine ⟨_, set_n _, ?_⟩ | refine ⟨_, set_mn _, ?_⟩ | refine ⟨_, set_mx _, ?_⟩ | refine ⟨_, set_ce _, ?_⟩ | refine ⟨_, set_po _, ?_⟩ | refine ⟨_, set_s _, ?_⟩ | refine ⟨_, set_hi _, ?_⟩ | refine ⟨_, set_lo _, ?_⟩ | refine And.intro (fun _ => ?_) tf | refine And.intro ft (fun _ => ?_) | refine And.intro (by kernel_rfl) ?_ | refine And.intro (by decide) ?_ | refine And.intro (fun _ => ?_) (fun h => absurd h (by decide)) | refine And.intro (fun h => absurd h (by decide)) (fun _ => ?_) | refine ⟨_, _, t1.pu rfl rfl, ?_⟩ | refine ⟨_, _, b1.pu rfl rfl, ?_⟩ | refine ⟨_, _, b2.pu rfl rfl, ?_⟩ | fail); conv => whnf) | (refine And.intro (fun _ => ?_) (fun _ => ?_) <;> conv => whnf) | fail)
      all_goals try (exfalso; simp only [decide_eq_true_eq, decide_eq_false_iff_not, Bool.not_eq_true', Bool.not_eq_false', Bool.not_eq_true, Bool.not_eq_false, beq_iff_eq, bne_iff_ne, beq_eq_false_iff_ne, bne_eq_false_iff_eq, ne_eq, Decidable.not_not] at *; first | omega | contradiction | (simp_all; done) | (simp_all; omega))
      all_goals try (refine Or.inl ?_; conv => whnf)
    all_goals try (exfalso; simp only [decide_eq_true_eq, decide_eq_false_iff_not] at *; omega)
    all_goals refine ⟨[], ?_⟩
    repeat (any_goals (first | exact True.intro | exact rfl | with_reducible_and_instances rfl | exact (by kernel_rfl) | refine And.intro ?_ ?_))
    all_goals conv => whnf
  iterate 2
    repeat' (first | exact True.intro | ((first | refine ⟨_, drop_id, ?_⟩ | refine ⟨_, _, at_n, ?_⟩ | refine ⟨_, _, at_hi, ?_⟩ | refine ⟨_, _, at_lo, ?_⟩ | refine ⟨_, _, at_mn, ?_⟩ | refine ⟨_, _, at_mx, ?_⟩ | refine ⟨_, _, at_ce, ?_⟩ | refine ⟨_, _, at_po, ?_⟩ | refine ⟨_, whole_z sC, clenz sC, ?_⟩ | refine ⟨_, setzC, ?_⟩ | refine And.intro (clenz sC) ?_ | refine And.intro fitzC ?_ | refine ⟨_, whole_cell sC hl, clen sC hl, ?_⟩ | refine And.intro (clen sC hl) ?_ | refine And.intro (fitC hl) ?_ | refine ⟨_, setC hl, ?_⟩ | refine ⟨_, whole_z sF, clenz sF, ?_⟩ | refine ⟨_, setzF, ?_⟩ | refine And.intro (clenz sF) ?_ | refine And.intro fitzF ?_ | refine ⟨_, whole_cell sF hl, clen sF hl, ?_⟩ | refine And.intro (clen sF hl) ?_ | refine And.intro (fitF hl) ?_ | refine ⟨_, setF hl, ?_⟩ | refine And.intro (fit1 hl (by decide)) ?_ | refine And.intro (fit1 rfl (by decide)) ?_ | refine ⟨_, sum_cell s25, rfl, ?_⟩ | refine ⟨_, set_n _, ?_⟩ | refine ⟨_, set_mn _, ?_⟩ | refine ⟨_, set_mx _, ?_⟩ | refine ⟨_, set_ce _, ?_⟩ | refine ⟨_, set_po _, ?_⟩ | refine ⟨_, set_s _, ?_⟩ | refine ⟨_, set_hi _, ?_⟩ | refine ⟨_, set_lo _, ?_⟩ | refine And.intro (fun _ => ?_) tf | refine And.intro ft (fun _ => ?_) | refine And.intro (by kernel_rfl) ?_ | refine And.intro (by decide) ?_ | refine And.intro (fun _ => ?_) (fun h => absurd h (by decide)) | refine And.intro (fun h => absurd h (by decide)) (fun _ => ?_) | fail); conv => whnf) | (refine And.intro (fun _ => ?_) (fun _ => ?_) <;> conv => whnf) | fail)
    all_goals try (exfalso; simp only [decide_eq_true_eq, decide_eq_false_iff_not, Bool.not_eq_true', Bool.not_eq_false', Bool.not_eq_true, Bool.not_eq_false, beq_iff_eq, bne_iff_ne, beq_eq_false_iff_ne, bne_eq_false_iff_eq, ne_eq, Decidable.not_not] at *; first | omega | contradiction | (simp_all; done) | (simp_all; omega))
    all_goals try (refine Or.inl ?_; conv => whnf)
  all_goals try (exfalso; simp only [decide_eq_true_eq, decide_eq_false_iff_not] at *; omega)
  repeat' (first | exact True.intro | ((first | refine ⟨_, drop_id, ?_⟩ | refine ⟨_, _, at_n, ?_⟩ | refine ⟨_, _, at_hi, ?_⟩ | refine ⟨_, _, at_lo, ?_⟩ | refine ⟨_, _, at_mn, ?_⟩ | refine ⟨_, _, at_mx, ?_⟩ | refine ⟨_, _, at_ce, ?_⟩ | refine ⟨_, _, at_po, ?_⟩ | refine ⟨_, whole_z sC, clenz sC, ?_⟩ | refine ⟨_, setzC, ?_⟩ | refine And.intro (clenz sC) ?_ | refine And.intro fitzC ?_ | refine ⟨_, whole_cell sC hl, clen sC hl, ?_⟩ | refine And.intro (clen sC hl) ?_ | refine And.intro (fitC hl) ?_ | refine ⟨_, setC hl, ?_⟩ | refine ⟨_, whole_z sF, clenz sF, ?_⟩ | refine ⟨_, setzF, ?_⟩ | refine And.intro (clenz sF) ?_ | refine And.intro fitzF ?_ | refine ⟨_, whole_cell sF hl, clen sF hl, ?_⟩ | refine And.intro (clen sF hl) ?_ | refine And.intro (fitF hl) ?_ | refine ⟨_, setF hl, ?_⟩ | refine And.intro (fit1 hl (by decide)) ?_ | refine And.intro (fit1 rfl (by decide)) ?_ | refine ⟨_, sum_cell s25, rfl, ?_⟩ | refine ⟨_, set_n _, ?_⟩ | refine ⟨_, set_mn _, ?_⟩ | refine ⟨_, set_mx _, ?_⟩ | refine ⟨_, set_ce _, ?_⟩ | refine ⟨_, set_po _, ?_⟩ | refine ⟨_, set_s _, ?_⟩ | refine ⟨_, set_hi _, ?_⟩ | refine ⟨_, set_lo _, ?_⟩ | refine ⟨_, hist_cell s69 hl, whole_len s69 hl, ?_⟩ | refine And.intro (fun _ => ?_) tf | refine And.intro ft (fun _ => ?_) | refine And.intro (by kernel_rfl) ?_ | refine And.intro (by decide) ?_ | refine And.intro (fun _ => ?_) (fun h => absurd h (by decide)) | refine And.intro (fun h => absurd h (by decide)) (fun _ => ?_) | fail); conv => whnf) | (refine And.intro (fun _ => ?_) (fun _ => ?_) <;> conv => whnf) | fail)
  refine ⟨Nat, fun k => k ≤ 65 ∧ okH (c.h.take k) = true, fun k => ([(30, iA k), (29, .d (hD c.h)), (2, .ptr 1 0), (1, .ptr 0 0)], [.row (cR c), .cells [bA false]]), fun k => 65 - k, ⟨0, ⟨by omega, rfl⟩, ?_⟩, ?_⟩
  · all_goals refine ⟨[], ?_⟩
    repeat (any_goals (first | exact True.intro | exact rfl | with_reducible_and_instances rfl | exact (by kernel_rfl) | refine And.intro ?_ ?_))
    all_goals conv => whnf
  rintro k ⟨hk, ho⟩
  conv => whnf
  by_cases hlt : k < 65
  · have hxk : c.h[k]? = some c.h[k] := List.getElem?_eq_getElem (by omega)
    generalize c.h[k] = x at hxk
    have ha : okH (c.h.take (k + 1)) = decide (0 ≤ x) := by unfold okH at *; rw [all_take hxk, ho, Bool.true_and]
    iterate 3
      repeat' (first | exact True.intro | ((first | refine ⟨_, drop_id, ?_⟩ | refine ⟨_, _, at_n, ?_⟩ | refine ⟨_, _, at_hi, ?_⟩ | refine ⟨_, _, at_lo, ?_⟩ | refine ⟨_, _, at_mn, ?_⟩ | refine ⟨_, _, at_mx, ?_⟩ | refine ⟨_, _, at_ce, ?_⟩ | refine ⟨_, _, at_po, ?_⟩ | refine ⟨_, whole_z sC, clenz sC, ?_⟩ | refine ⟨_, setzC, ?_⟩ | refine And.intro (clenz sC) ?_ | refine And.intro fitzC ?_ | refine ⟨_, whole_cell sC hl, clen sC hl, ?_⟩ | refine And.intro (clen sC hl) ?_ | refine And.intro (fitC hl) ?_ | refine ⟨_, setC hl, ?_⟩ | refine ⟨_, whole_z sF, clenz sF, ?_⟩ | refine ⟨_, setzF, ?_⟩ | refine And.intro (clenz sF) ?_ | refine And.intro fitzF ?_ | refine ⟨_, whole_cell sF hl, clen sF hl, ?_⟩ | refine And.intro (clen sF hl) ?_ | refine And.intro (fitF hl) ?_ | refine ⟨_, setF hl, ?_⟩ | refine And.intro (fit1 hl (by decide)) ?_ | refine And.intro (fit1 rfl (by decide)) ?_ | refine ⟨_, sum_cell s25, rfl, ?_⟩ | refine ⟨_, set_n _, ?_⟩ | refine ⟨_, set_mn _, ?_⟩ | refine ⟨_, set_mx _, ?_⟩ | refine ⟨_, set_ce _, ?_⟩ | refine ⟨_, set_po _, ?_⟩ | refine ⟨_, set_s _, ?_⟩ | refine ⟨_, set_hi _, ?_⟩ | refine ⟨_, set_lo _, ?_⟩ | refine ⟨k, _, rfl, Nat.lt_of_lt_of_eq hlt l27.symm, map_get hxk, ?_⟩ | refine ⟨_, rfl, _, _, drop_row hxk, ?_⟩ | refine And.intro (fun _ => ?_) tf | refine And.intro ft (fun _ => ?_) | refine And.intro (by kernel_rfl) ?_ | refine And.intro (by decide) ?_ | refine And.intro (fun _ => ?_) (fun h => absurd h (by decide)) | refine And.intro (fun h => absurd h (by decide)) (fun _ => ?_) | fail); conv => whnf) | (refine And.intro (fun _ => ?_) (fun _ => ?_) <;> conv => whnf) | fail)
      all_goals try (exfalso; simp only [decide_eq_true_eq, decide_eq_false_iff_not, Bool.not_eq_true', Bool.not_eq_false', Bool.not_eq_true, Bool.not_eq_false, beq_iff_eq, bne_iff_ne, beq_eq_false_iff_ne, bne_eq_false_iff_eq, ne_eq, Decidable.not_not] at *; first | omega | contradiction | (simp_all; done) | (simp_all; omega))
      all_goals try (refine Or.inl ?_; conv => whnf)
    · have h1 : x < 0 := (by (try simp only [decide_eq_true_eq, decide_eq_false_iff_not, Bool.not_eq_true', Bool.not_eq_false', Bool.not_eq_true, Bool.not_eq_false, beq_iff_eq, bne_iff_ne, beq_eq_false_iff_ne, bne_eq_false_iff_eq, ne_eq, Decidable.not_not, Int.natCast_eq_zero] at *); first | omega | assumption | (simp_all; done) | (simp_all; omega))
      have hr : okH c.h = false := by
        rw [← List.take_append_drop (k + 1) c.h]
        unfold okH at *
        rw [List.all_append, ha, decide_eq_false (by omega)]; rfl
      rw [right_no2 hr]
      all_goals refine ⟨[], ?_⟩
      repeat (any_goals (first | exact True.intro | exact rfl | with_reducible_and_instances rfl | exact (by kernel_rfl) | refine And.intro ?_ ?_))
      all_goals conv => whnf
    · have h1 : ¬ x < 0 := (by (try simp only [decide_eq_true_eq, decide_eq_false_iff_not, Bool.not_eq_true', Bool.not_eq_false', Bool.not_eq_true, Bool.not_eq_false, beq_iff_eq, bne_iff_ne, beq_eq_false_iff_ne, bne_eq_false_iff_eq, ne_eq, Decidable.not_not, Int.natCast_eq_zero] at *); first | omega | assumption | (simp_all; done) | (simp_all; omega))
      refine ⟨k + 1, ⟨hlt, by rw [ha]; exact decide_eq_true (by omega)⟩, show 65 - (k + 1) < 65 - k by omega, ?_⟩
      all_goals refine ⟨[], ?_⟩
      repeat (any_goals (first | exact True.intro | exact rfl | with_reducible_and_instances rfl | exact (by kernel_rfl) | refine And.intro ?_ ?_))
      all_goals conv => whnf
      exact wk1 (by omega)
  · have hke : k = 65 := by omega
    subst hke
    rw [List.take_of_length_le (by omega)] at ho
    by_cases h3 : c.h.sum = c.n
    case neg =>
      iterate 4
        repeat' (first | exact True.intro | ((first | refine ⟨_, drop_id, ?_⟩ | refine ⟨_, _, at_n, ?_⟩ | refine ⟨_, _, at_hi, ?_⟩ | refine ⟨_, _, at_lo, ?_⟩ | refine ⟨_, _, at_mn, ?_⟩ | refine ⟨_, _, at_mx, ?_⟩ | refine ⟨_, _, at_ce, ?_⟩ | refine ⟨_, _, at_po, ?_⟩ | refine ⟨_, whole_z sC, clenz sC, ?_⟩ | refine ⟨_, setzC, ?_⟩ | refine And.intro (clenz sC) ?_ | refine And.intro fitzC ?_ | refine ⟨_, whole_cell sC hl, clen sC hl, ?_⟩ | refine And.intro (clen sC hl) ?_ | refine And.intro (fitC hl) ?_ | refine ⟨_, setC hl, ?_⟩ | refine ⟨_, whole_z sF, clenz sF, ?_⟩ | refine ⟨_, setzF, ?_⟩ | refine And.intro (clenz sF) ?_ | refine And.intro fitzF ?_ | refine ⟨_, whole_cell sF hl, clen sF hl, ?_⟩ | refine And.intro (clen sF hl) ?_ | refine And.intro (fitF hl) ?_ | refine ⟨_, setF hl, ?_⟩ | refine And.intro (fit1 hl (by decide)) ?_ | refine And.intro (fit1 rfl (by decide)) ?_ | refine ⟨_, sum_cell s25, rfl, ?_⟩ | refine ⟨_, set_n _, ?_⟩ | refine ⟨_, set_mn _, ?_⟩ | refine ⟨_, set_mx _, ?_⟩ | refine ⟨_, set_ce _, ?_⟩ | refine ⟨_, set_po _, ?_⟩ | refine ⟨_, set_s _, ?_⟩ | refine ⟨_, set_hi _, ?_⟩ | refine ⟨_, set_lo _, ?_⟩ | refine ⟨_, hist_cell s69 hl, whole_len s69 hl, ?_⟩ | refine And.intro (fun _ => ?_) tf | refine And.intro ft (fun _ => ?_) | refine And.intro (by kernel_rfl) ?_ | refine And.intro (by decide) ?_ | refine And.intro (fun _ => ?_) (fun h => absurd h (by decide)) | refine And.intro (fun h => absurd h (by decide)) (fun _ => ?_) | refine ⟨_, _, t1.pu rfl rfl, ?_⟩ | refine ⟨_, _, w1.pu rfl rfl, ?_⟩ | refine ⟨_, _, neS (by kernel_rfl), ?_⟩ | fail); conv => whnf) | (refine And.intro (fun _ => ?_) (fun _ => ?_) <;> conv => whnf) | fail)
        all_goals try (exfalso; simp only [decide_eq_true_eq, decide_eq_false_iff_not, Bool.not_eq_true', Bool.not_eq_false', Bool.not_eq_true, Bool.not_eq_false, beq_iff_eq, bne_iff_ne, beq_eq_false_iff_ne, bne_eq_false_iff_eq, ne_eq, Decidable.not_not] at *; first | omega | contradiction | (simp_all; done) | (simp_all; omega))
        all_goals try (refine Or.inl ?_; conv => whnf)
      all_goals try exact (no_way2 h3 ‹_›).elim
      rw [right_no3 h3]
      all_goals refine ⟨[], ?_⟩
      repeat (any_goals (first | exact True.intro | exact rfl | with_reducible_and_instances rfl | exact (by kernel_rfl) | refine And.intro ?_ ?_))
      all_goals conv => whnf
    by_cases h4 : c.n = 0
    case pos =>
      rw [right_zero h0 ho h3 h4]
      iterate 6
        repeat' (first | exact True.intro | ((first | refine ⟨_, drop_id, ?_⟩ | refine ⟨_, _, at_n, ?_⟩ | refine ⟨_, _, at_hi, ?_⟩ | refine ⟨_, _, at_lo, ?_⟩ | refine ⟨_, _, at_mn, ?_⟩ | refine ⟨_, _, at_mx, ?_⟩ | refine ⟨_, _, at_ce, ?_⟩ | refine ⟨_, _, at_po, ?_⟩ | refine ⟨_, whole_z sC, clenz sC, ?_⟩ | refine ⟨_, setzC, ?_⟩ | refine And.intro (clenz sC) ?_ | refine And.intro fitzC ?_ | refine ⟨_, whole_cell sC hl, clen sC hl, ?_⟩ | refine And.intro (clen sC hl) ?_ | refine And.intro (fitC hl) ?_ | refine ⟨_, setC hl, ?_⟩ | refine ⟨_, whole_z sF, clenz sF, ?_⟩ | refine ⟨_, setzF, ?_⟩ | refine And.intro (clenz sF) ?_ | refine And.intro fitzF ?_ | refine ⟨_, whole_cell sF hl, clen sF hl, ?_⟩ | refine And.intro (clen sF hl) ?_ | refine And.intro (fitF hl) ?_ | refine ⟨_, setF hl, ?_⟩ | refine And.intro (fit1 hl (by decide)) ?_ | refine And.intro (fit1 rfl (by decide)) ?_ | refine ⟨_, sum_cell s25, rfl, ?_⟩ | refine ⟨_, set_n _, ?_⟩ | refine ⟨_, set_mn _, ?_⟩ | refine ⟨_, set_mx _, ?_⟩ | refine ⟨_, set_ce _, ?_⟩ | refine ⟨_, set_po _, ?_⟩ | refine ⟨_, set_s _, ?_⟩ | refine ⟨_, set_hi _, ?_⟩ | refine ⟨_, set_lo _, ?_⟩ | refine ⟨_, hist_cell s69 hl, whole_len s69 hl, ?_⟩ | refine And.intro (fun _ => ?_) tf | refine And.intro ft (fun _ => ?_) | refine And.intro (by kernel_rfl) ?_ | refine And.intro (by decide) ?_ | refine And.intro (fun _ => ?_) (fun h => absurd h (by decide)) | refine And.intro (fun h => absurd h (by decide)) (fun _ => ?_) | refine ⟨_, _, t1.pu rfl rfl, ?_⟩ | refine ⟨_, _, w1.pu rfl rfl, ?_⟩ | refine ⟨_, _, neS (by kernel_rfl), ?_⟩ | refine ⟨_, _, eqS (by kernel_rfl), ?_⟩ | fail); conv => whnf) | (refine And.intro (fun _ => ?_) (fun _ => ?_) <;> conv => whnf) | fail)
        all_goals try (exfalso; simp only [decide_eq_true_eq, decide_eq_false_iff_not, Bool.not_eq_true', Bool.not_eq_false', Bool.not_eq_true, Bool.not_eq_false, beq_iff_eq, bne_iff_ne, beq_eq_false_iff_ne, bne_eq_false_iff_eq, ne_eq, Decidable.not_not] at *; first | omega | contradiction | (simp_all; done) | (simp_all; omega))
        all_goals try (refine Or.inl ?_; conv => whnf)
      all_goals try exact (no_way h3 ‹_›).elim
      · rw [zz1 ‹_› ‹_›]
        all_goals refine ⟨[], ?_⟩
        repeat (any_goals (first | exact True.intro | exact rfl | with_reducible_and_instances rfl | exact (by kernel_rfl) | refine And.intro ?_ ?_))
        all_goals conv => whnf
      · rw [zz2 ‹_›]
        all_goals refine ⟨[], ?_⟩
        repeat (any_goals (first | exact True.intro | exact rfl | with_reducible_and_instances rfl | exact (by kernel_rfl) | refine And.intro ?_ ?_))
        all_goals conv => whnf
      · rw [zz3 ‹_›]
        all_goals refine ⟨[], ?_⟩
        repeat (any_goals (first | exact True.intro | exact rfl | with_reducible_and_instances rfl | exact (by kernel_rfl) | refine And.intro ?_ ?_))
        all_goals conv => whnf
    rw [right_some h0 ho h3 h4]
    iterate 8
      repeat' (first | exact True.intro | ((first | refine ⟨_, drop_id, ?_⟩ | refine ⟨_, _, at_n, ?_⟩ | refine ⟨_, _, at_hi, ?_⟩ | refine ⟨_, _, at_lo, ?_⟩ | refine ⟨_, _, at_mn, ?_⟩ | refine ⟨_, _, at_mx, ?_⟩ | refine ⟨_, _, at_ce, ?_⟩ | refine ⟨_, _, at_po, ?_⟩ | refine ⟨_, whole_z sC, clenz sC, ?_⟩ | refine ⟨_, setzC, ?_⟩ | refine And.intro (clenz sC) ?_ | refine And.intro fitzC ?_ | refine ⟨_, whole_cell sC hl, clen sC hl, ?_⟩ | refine And.intro (clen sC hl) ?_ | refine And.intro (fitC hl) ?_ | refine ⟨_, setC hl, ?_⟩ | refine ⟨_, whole_z sF, clenz sF, ?_⟩ | refine ⟨_, setzF, ?_⟩ | refine And.intro (clenz sF) ?_ | refine And.intro fitzF ?_ | refine ⟨_, whole_cell sF hl, clen sF hl, ?_⟩ | refine And.intro (clen sF hl) ?_ | refine And.intro (fitF hl) ?_ | refine ⟨_, setF hl, ?_⟩ | refine And.intro (fit1 hl (by decide)) ?_ | refine And.intro (fit1 rfl (by decide)) ?_ | refine ⟨_, sum_cell s25, rfl, ?_⟩ | refine ⟨_, set_n _, ?_⟩ | refine ⟨_, set_mn _, ?_⟩ | refine ⟨_, set_mx _, ?_⟩ | refine ⟨_, set_ce _, ?_⟩ | refine ⟨_, set_po _, ?_⟩ | refine ⟨_, set_s _, ?_⟩ | refine ⟨_, set_hi _, ?_⟩ | refine ⟨_, set_lo _, ?_⟩ | refine ⟨bkt c.mn, rfl, Nat.lt_of_lt_of_eq k1 l27.symm, ?_⟩ | refine ⟨bkt c.mx, rfl, Nat.lt_of_lt_of_eq k2 l27.symm, ?_⟩ | refine ⟨_, _, at_h hl k1, ?_⟩ | refine ⟨_, _, at_h hl k2, ?_⟩ | refine ⟨_, hist_cell s69 hl, whole_len s69 hl, ?_⟩ | refine And.intro (fun _ => ?_) tf | refine And.intro ft (fun _ => ?_) | refine And.intro (by kernel_rfl) ?_ | refine And.intro (by decide) ?_ | refine And.intro (fun _ => ?_) (fun h => absurd h (by decide)) | refine And.intro (fun h => absurd h (by decide)) (fun _ => ?_) | refine ⟨_, _, t1.pu rfl rfl, ?_⟩ | refine ⟨_, _, w1.pu rfl rfl, ?_⟩ | refine ⟨_, _, b1.pu rfl rfl, ?_⟩ | refine ⟨_, _, b2.pu rfl rfl, ?_⟩ | refine ⟨_, _, neS (by kernel_rfl), ?_⟩ | refine ⟨_, _, f1.nw rfl, ?_⟩ | fail); conv => whnf) | (refine And.intro (fun _ => ?_) (fun _ => ?_) <;> conv => whnf) | fail)
      all_goals try (exfalso; simp only [decide_eq_true_eq, decide_eq_false_iff_not, Bool.not_eq_true', Bool.not_eq_false', Bool.not_eq_true, Bool.not_eq_false, beq_iff_eq, bne_iff_ne, beq_eq_false_iff_ne, bne_eq_false_iff_eq, ne_eq, Decidable.not_not] at *; first | omega | contradiction | (simp_all; done) | (simp_all; omega))
      all_goals try (refine Or.inl ?_; conv => whnf)
    all_goals try exact (no_way h3 ‹_›).elim
    · rw [rr2 ‹_›]
      all_goals refine ⟨[], ?_⟩
      repeat (any_goals (first | exact True.intro | exact rfl | with_reducible_and_instances rfl | exact (by kernel_rfl) | refine And.intro ?_ ?_))
      all_goals conv => whnf
    · have q1 := rr3 (c := c) ‹_› ‹_›
      rw [q1]
      refine ⟨Nat, Nat, fun y z => z = y ∧ y ≤ 65 ∧ ∀ b, b < y → hAt c.h b ≠ 0 → bkt c.mn ≤ b ∧ b ≤ bkt c.mx, fun _ => [.row (cR c), .cells [bA false], .cells [iA (bkt c.mn)], .cells [iA (bkt c.mx)], .row (hR c.h)], [(80, .fn (.func 76) [] [.ptr 4 0]), (6, .ptr 3 0), (5, .ptr 2 0), (2, .ptr 1 0), (1, .ptr 0 0)], 5, _, _, _, ([.dead, .dead, .dead, .dead, .row (hR c.h)], none), 0, _, _, ⟨0, ⟨rfl, by omega, fun b hb => absurd hb (by omega)⟩, ?_⟩, rfl, rfl, fullN hl rfl, ?_, ?_, ?_, ?_⟩
      · all_goals refine ⟨[], ?_⟩
        repeat (any_goals (first | exact True.intro | exact rfl | with_reducible_and_instances rfl | exact (by kernel_rfl) | refine And.intro ?_ ?_))
        all_goals conv => whnf
      · rintro y x y' ⟨b, v, _, rfl⟩; rfl
      · rintro y z _; exact ⟨⟨rfl, trivial⟩, Nat.le_refl _⟩
      · rintro y z x y' ⟨rfl, hy, hall⟩ ⟨b, v, ⟨hyb, hb, hbv, hv0, hz, rfl⟩, rfl⟩
        have hne : hAt c.h b ≠ 0 := by unfold hAt; rw [hbv]; exact hv0
        conv => whnf
        by_cases h5 : bkt c.mn ≤ b ∧ b ≤ bkt c.mx
        · iterate 3
            repeat' (first | exact True.intro | ((first | refine And.intro (fun _ => ?_) tf | refine And.intro ft (fun _ => ?_) | refine And.intro (by kernel_rfl) ?_ | refine And.intro (by decide) ?_ | refine And.intro (fun _ => ?_) (fun h => absurd h (by decide)) | refine And.intro (fun h => absurd h (by decide)) (fun _ => ?_) | fail); conv => whnf) | (refine And.intro (fun _ => ?_) (fun _ => ?_) <;> conv => whnf) | fail)
            all_goals try (exfalso; simp only [decide_eq_true_eq, decide_eq_false_iff_not, Bool.not_eq_true', Bool.not_eq_false', Bool.not_eq_true, Bool.not_eq_false, beq_iff_eq, bne_iff_ne, beq_eq_false_iff_ne, bne_eq_false_iff_eq, ne_eq, Decidable.not_not] at *; first | omega | contradiction | (simp_all; done) | (simp_all; omega))
            all_goals try (refine Or.inl ?_; conv => whnf)
          refine ⟨b + 1, ⟨rfl, by omega, fun j hj hjn => ?_⟩, ?_⟩
          · by_cases e : j = b
            · subst e; exact h5
            · refine hall j ?_ hjn
              by_cases q : z ≤ j
              · exact absurd (by unfold hAt; rw [hz j q (by omega)]; rfl) hjn
              · omega
          · all_goals refine ⟨[], ?_⟩
            repeat (any_goals (first | exact True.intro | exact rfl | with_reducible_and_instances rfl | exact (by kernel_rfl) | refine And.intro ?_ ?_))
            all_goals conv => whnf
        · rw [inB_no hb hne (by omega)]
          iterate 3
            repeat' (first | exact True.intro | ((first | refine And.intro (fun _ => ?_) tf | refine And.intro ft (fun _ => ?_) | refine And.intro (by kernel_rfl) ?_ | refine And.intro (by decide) ?_ | refine And.intro (fun _ => ?_) (fun h => absurd h (by decide)) | refine And.intro (fun h => absurd h (by decide)) (fun _ => ?_) | fail); conv => whnf) | (refine And.intro (fun _ => ?_) (fun _ => ?_) <;> conv => whnf) | fail)
            all_goals try (exfalso; simp only [decide_eq_true_eq, decide_eq_false_iff_not, Bool.not_eq_true', Bool.not_eq_false', Bool.not_eq_true, Bool.not_eq_false, beq_iff_eq, bne_iff_ne, beq_eq_false_iff_ne, bne_eq_false_iff_eq, ne_eq, Decidable.not_not] at *; first | omega | contradiction | (simp_all; done) | (simp_all; omega))
            all_goals try (refine Or.inl ?_; conv => whnf)
          all_goals refine ⟨[], ?_⟩
          repeat (any_goals (first | exact True.intro | exact rfl | with_reducible_and_instances rfl | exact (by kernel_rfl) | refine And.intro ?_ ?_))
          all_goals conv => whnf
      · rintro y z ⟨hy2, hz⟩ ⟨rfl, hy, hall⟩
        rw [inB_yes fun b hb hbn => by
          by_cases q : z ≤ b
          · exact absurd (by unfold hAt; rw [hz b q hb]; rfl) hbn
          · exact hall b (by omega) hbn]
        conv => whnf
        iterate 3
          repeat' (first | exact True.intro | ((first | refine And.intro (fun _ => ?_) tf | refine And.intro ft (fun _ => ?_) | refine And.intro (by kernel_rfl) ?_ | refine And.intro (by decide) ?_ | refine And.intro (fun _ => ?_) (fun h => absurd h (by decide)) | refine And.intro (fun h => absurd h (by decide)) (fun _ => ?_) | fail); conv => whnf) | (refine And.intro (fun _ => ?_) (fun _ => ?_) <;> conv => whnf) | fail)
          all_goals try (exfalso; simp only [decide_eq_true_eq, decide_eq_false_iff_not, Bool.not_eq_true', Bool.not_eq_false', Bool.not_eq_true, Bool.not_eq_false, beq_iff_eq, bne_iff_ne, beq_eq_false_iff_ne, bne_eq_false_iff_eq, ne_eq, Decidable.not_not] at *; first | omega | contradiction | (simp_all; done) | (simp_all; omega))
          all_goals try (refine Or.inl ?_; conv => whnf)
        all_goals refine ⟨[], ?_⟩
        repeat (any_goals (first | exact True.intro | exact rfl | with_reducible_and_instances rfl | exact (by kernel_rfl) | refine And.intro ?_ ?_))
        all_goals conv => whnf
    · rw [rr1 ‹_›]
      all_goals refine ⟨[], ?_⟩
      repeat (any_goals (first | exact True.intro | exact rfl | with_reducible_and_instances rfl | exact (by kernel_rfl) | refine And.intro ?_ ?_))
      all_goals conv => whnf
end Go.Proofs.YtbjmdnemeidpjaaGreat
/- Add, Fold of cells. -/
namespace Go.Proofs.YtbjmdnemeidpjaaGreat
set_option linter.unusedSimpArgs false
set_option linter.unusedVariables false
open Go.RowKit
set_option maxRecDepth 100000
theorem hist_fit {c : Cel} {h : List Int} (hc : c.h.length = 65) (hh : h.length = 65) : 0 + 7 + (hR h).length ≤ (cR c).length := by rw [cR_len hc, hR_len]; omega
theorem sum_fit {c : Cel} {x y : D} (hc : c.h.length = 65) : 0 + 1 + [x, y].length ≤ (cR c).length := by rw [cR_len hc]; simp
theorem min_if (m v : Int) : min m v = if v < m then v else m := by split <;> omega
theorem max_if (m v : Int) : max m v = if v > m then v else m := by split <;> omega
set_option maxHeartbeats 4000000 in
theorem add_sat_c (c : Cel) (v : Int) (hc : CelOK c) (hv : in64 v) : Sat Tryz.prog 35 [.d (cD c), iA v] [] (.tup [.d (cD (addC c v).1), iA (addC c v).2]) [] := by
  have hl := hc.hl
  have r1 := right_sat_c c hc

  by_cases hr : rightC c = true
  case neg =>
    have hr : rightC c = false := by simpa using hr
    have e : addC c v = (zC, 10) := by unfold addC; rw [if_pos hr]
    rw [e]
    rw [hr] at r1
    refine sat_of_vc (T := tiOf Tryz.prog) (E := E0) Tryz.func35 rfl rfl hE0 hm0 rfl ?_
    conv => whnf
    iterate 3
      repeat' (first | exact True.intro | ((first | refine ⟨_, drop_id, ?_⟩ | refine ⟨_, _, at_n, ?_⟩ | refine ⟨_, _, at_hi, ?_⟩ | refine ⟨_, _, at_lo, ?_⟩ | refine ⟨_, _, at_mn, ?_⟩ | refine ⟨_, _, at_mx, ?_⟩ | refine ⟨_, _, at_ce, ?_⟩ | refine ⟨_, _, at_po, ?_⟩ | refine ⟨_, whole_z sC, clenz sC, ?_⟩ | refine ⟨_, setzC, ?_⟩ | refine And.intro (clenz sC) ?_ | refine And.intro fitzC ?_ | refine ⟨_, whole_cell sC hl, clen sC hl, ?_⟩ | refine And.intro (clen sC hl) ?_ | refine And.intro (fitC hl) ?_ | refine ⟨_, setC hl, ?_⟩ | refine ⟨_, whole_z sF, clenz sF, ?_⟩ | refine ⟨_, setzF, ?_⟩ | refine And.intro (clenz sF) ?_ | refine And.intro fitzF ?_ | refine ⟨_, whole_cell sF hl, clen sF hl, ?_⟩ | refine And.intro (clen sF hl) ?_ | refine And.intro (fitF hl) ?_ | refine ⟨_, setF hl, ?_⟩ | refine And.intro (fit1 hl (by decide)) ?_ | refine And.intro (fit1 rfl (by decide)) ?_ | refine ⟨_, sum_cell s25, rfl, ?_⟩ | refine ⟨_, set_n _, ?_⟩ | refine ⟨_, set_mn _, ?_⟩ | refine ⟨_, set_mx _, ?_⟩ | refine ⟨_, set_ce _, ?_⟩ | refine ⟨_, set_po _, ?_⟩ | refine ⟨_, set_s _, ?_⟩ | refine ⟨_, set_hi _, ?_⟩ | refine ⟨_, set_lo _, ?_⟩ | refine And.intro (fun _ => ?_) tf | refine And.intro ft (fun _ => ?_) | refine And.intro (by kernel_rfl) ?_ | refine And.intro (by decide) ?_ | refine And.intro (fun _ => ?_) (fun h => absurd h (by decide)) | refine And.intro (fun h => absurd h (by decide)) (fun _ => ?_) | refine ⟨_, _, r1.pu rfl rfl, ?_⟩ | fail); conv => whnf) | (refine And.intro (fun _ => ?_) (fun _ => ?_) <;> conv => whnf) | fail)
      all_goals try (exfalso; simp only [decide_eq_true_eq, decide_eq_false_iff_not, Bool.not_eq_true', Bool.not_eq_false', Bool.not_eq_true, Bool.not_eq_false, beq_iff_eq, bne_iff_ne, beq_eq_false_iff_ne, bne_eq_false_iff_eq, ne_eq, Decidable.not_not] at *; first | omega | contradiction | (simp_all; done) | (simp_all; omega))
      all_goals try (refine Or.inl ?_; conv => whnf)
    all_goals refine ⟨[], ?_⟩
    repeat (any_goals (first | exact True.intro | exact rfl | with_reducible_and_instances rfl | exact (by kernel_rfl) | refine And.intro ?_ ?_))
    all_goals conv => whnf
  have hR := right_iff.1 hr
  rw [hr] at r1
  have sa := safeAdd_sat c.n 1 hc.n (by unfold in64; omega)
  have hn0 := hR.n
  by_cases hn : c.n = big
  · have e : addC c v = (zC, 12) := by unfold addC; rw [if_neg (by rw [hr]; simp), if_pos hn]
    have e2 : addR c.n 1 = (0, 12) := by unfold addR; rw [if_pos (by rw [hn]; unfold big; omega)]
    rw [e]
    rw [e2] at sa
    refine sat_of_vc (T := tiOf Tryz.prog) (E := E0) Tryz.func35 rfl rfl hE0 hm0 rfl ?_
    conv => whnf
    iterate 4
      repeat' (first | exact True.intro | ((first | refine ⟨_, drop_id, ?_⟩ | refine ⟨_, _, at_n, ?_⟩ | refine ⟨_, _, at_hi, ?_⟩ | refine ⟨_, _, at_lo, ?_⟩ | refine ⟨_, _, at_mn, ?_⟩ | refine ⟨_, _, at_mx, ?_⟩ | refine ⟨_, _, at_ce, ?_⟩ | refine ⟨_, _, at_po, ?_⟩ | refine ⟨_, whole_z sC, clenz sC, ?_⟩ | refine ⟨_, setzC, ?_⟩ | refine And.intro (clenz sC) ?_ | refine And.intro fitzC ?_ | refine ⟨_, whole_cell sC hl, clen sC hl, ?_⟩ | refine And.intro (clen sC hl) ?_ | refine And.intro (fitC hl) ?_ | refine ⟨_, setC hl, ?_⟩ | refine ⟨_, whole_z sF, clenz sF, ?_⟩ | refine ⟨_, setzF, ?_⟩ | refine And.intro (clenz sF) ?_ | refine And.intro fitzF ?_ | refine ⟨_, whole_cell sF hl, clen sF hl, ?_⟩ | refine And.intro (clen sF hl) ?_ | refine And.intro (fitF hl) ?_ | refine ⟨_, setF hl, ?_⟩ | refine And.intro (fit1 hl (by decide)) ?_ | refine And.intro (fit1 rfl (by decide)) ?_ | refine ⟨_, sum_cell s25, rfl, ?_⟩ | refine ⟨_, set_n _, ?_⟩ | refine ⟨_, set_mn _, ?_⟩ | refine ⟨_, set_mx _, ?_⟩ | refine ⟨_, set_ce _, ?_⟩ | refine ⟨_, set_po _, ?_⟩ | refine ⟨_, set_s _, ?_⟩ | refine ⟨_, set_hi _, ?_⟩ | refine ⟨_, set_lo _, ?_⟩ | refine And.intro (fun _ => ?_) tf | refine And.intro ft (fun _ => ?_) | refine And.intro (by kernel_rfl) ?_ | refine And.intro (by decide) ?_ | refine And.intro (fun _ => ?_) (fun h => absurd h (by decide)) | refine And.intro (fun h => absurd h (by decide)) (fun _ => ?_) | refine ⟨_, _, r1.pu rfl rfl, ?_⟩ | refine ⟨_, _, sa.pu rfl rfl, ?_⟩ | fail); conv => whnf) | (refine And.intro (fun _ => ?_) (fun _ => ?_) <;> conv => whnf) | fail)
      all_goals try (exfalso; simp only [decide_eq_true_eq, decide_eq_false_iff_not, Bool.not_eq_true', Bool.not_eq_false', Bool.not_eq_true, Bool.not_eq_false, beq_iff_eq, bne_iff_ne, beq_eq_false_iff_ne, bne_eq_false_iff_eq, ne_eq, Decidable.not_not] at *; first | omega | contradiction | (simp_all; done) | (simp_all; omega))
      all_goals try (refine Or.inl ?_; conv => whnf)
    all_goals refine ⟨[], ?_⟩
    repeat (any_goals (first | exact True.intro | exact rfl | with_reducible_and_instances rfl | exact (by kernel_rfl) | refine And.intro ?_ ?_))
    all_goals conv => whnf
  have e2 : addR c.n 1 = (c.n + 1, 0) := by unfold addR; rw [if_neg (by have := hc.n; unfold in64 at this; unfold big at hn; omega)]
  rw [e2] at sa
  have wo := wof_sat v hv
  have wa := wadd_sat c.s v hc.s (by unfold in128 hiZ word; unfold in64 at *; omega)
  by_cases hs : in128 (c.s + v)
  case neg =>
    have e : addC c v = (zC, 12) := by unfold addC; rw [if_neg (by rw [hr]; simp), if_neg hn, if_pos hs]
    rw [e]
    rw [if_neg hs] at wa
    refine sat_of_vc (T := tiOf Tryz.prog) (E := E0) Tryz.func35 rfl rfl hE0 hm0 rfl ?_
    conv => whnf
    iterate 5
      repeat' (first | exact True.intro | ((first | refine ⟨_, drop_id, ?_⟩ | refine ⟨_, _, at_n, ?_⟩ | refine ⟨_, _, at_hi, ?_⟩ | refine ⟨_, _, at_lo, ?_⟩ | refine ⟨_, _, at_mn, ?_⟩ | refine ⟨_, _, at_mx, ?_⟩ | refine ⟨_, _, at_ce, ?_⟩ | refine ⟨_, _, at_po, ?_⟩ | refine ⟨_, whole_z sC, clenz sC, ?_⟩ | refine ⟨_, setzC, ?_⟩ | refine And.intro (clenz sC) ?_ | refine And.intro fitzC ?_ | refine ⟨_, whole_cell sC hl, clen sC hl, ?_⟩ | refine And.intro (clen sC hl) ?_ | refine And.intro (fitC hl) ?_ | refine ⟨_, setC hl, ?_⟩ | refine ⟨_, whole_z sF, clenz sF, ?_⟩ | refine ⟨_, setzF, ?_⟩ | refine And.intro (clenz sF) ?_ | refine And.intro fitzF ?_ | refine ⟨_, whole_cell sF hl, clen sF hl, ?_⟩ | refine And.intro (clen sF hl) ?_ | refine And.intro (fitF hl) ?_ | refine ⟨_, setF hl, ?_⟩ | refine And.intro (fit1 hl (by decide)) ?_ | refine And.intro (fit1 rfl (by decide)) ?_ | refine ⟨_, sum_cell s25, rfl, ?_⟩ | refine ⟨_, set_n _, ?_⟩ | refine ⟨_, set_mn _, ?_⟩ | refine ⟨_, set_mx _, ?_⟩ | refine ⟨_, set_ce _, ?_⟩ | refine ⟨_, set_po _, ?_⟩ | refine ⟨_, set_s _, ?_⟩ | refine ⟨_, set_hi _, ?_⟩ | refine ⟨_, set_lo _, ?_⟩ | refine And.intro (fun _ => ?_) tf | refine And.intro ft (fun _ => ?_) | refine And.intro (by kernel_rfl) ?_ | refine And.intro (by decide) ?_ | refine And.intro (fun _ => ?_) (fun h => absurd h (by decide)) | refine And.intro (fun h => absurd h (by decide)) (fun _ => ?_) | refine ⟨_, _, r1.pu rfl rfl, ?_⟩ | refine ⟨_, _, sa.pu rfl rfl, ?_⟩ | refine ⟨_, _, wo.pu rfl rfl, ?_⟩ | refine ⟨_, _, wa.pu rfl rfl, ?_⟩ | fail); conv => whnf) | (refine And.intro (fun _ => ?_) (fun _ => ?_) <;> conv => whnf) | fail)
      all_goals try (exfalso; simp only [decide_eq_true_eq, decide_eq_false_iff_not, Bool.not_eq_true', Bool.not_eq_false', Bool.not_eq_true, Bool.not_eq_false, beq_iff_eq, bne_iff_ne, beq_eq_false_iff_ne, bne_eq_false_iff_eq, ne_eq, Decidable.not_not] at *; first | omega | contradiction | (simp_all; done) | (simp_all; omega))
      all_goals try (refine Or.inl ?_; conv => whnf)
    all_goals refine ⟨[], ?_⟩
    repeat (any_goals (first | exact True.intro | exact rfl | with_reducible_and_instances rfl | exact (by kernel_rfl) | refine And.intro ?_ ?_))
    all_goals conv => whnf
  rw [if_pos hs] at wa
  obtain ⟨h1, h2⟩ := hist_fine hc hR hv hn
  have ha := add_sat c.h v hl hv hc.hx
  rw [h1, h2] at ha
  have hbl : (bump c.h (bkt v)).length = 65 := by rw [bump_len]; exact hl
  have hf := addC_fine (v := v) hR hn hs
  rw [hf]
  generalize bump c.h (bkt v) = b at *
  generalize c.s + v = s at *
  refine sat_of_vc (T := tiOf Tryz.prog) (E := E0) Tryz.func35 rfl rfl hE0 hm0 rfl ?_
  conv => whnf
  iterate 7
    repeat' (first | exact True.intro | ((first | refine ⟨_, drop_id, ?_⟩ | refine ⟨_, _, at_n, ?_⟩ | refine ⟨_, _, at_hi, ?_⟩ | refine ⟨_, _, at_lo, ?_⟩ | refine ⟨_, _, at_mn, ?_⟩ | refine ⟨_, _, at_mx, ?_⟩ | refine ⟨_, _, at_ce, ?_⟩ | refine ⟨_, _, at_po, ?_⟩ | refine ⟨_, whole_z sC, clenz sC, ?_⟩ | refine ⟨_, setzC, ?_⟩ | refine And.intro (clenz sC) ?_ | refine And.intro fitzC ?_ | refine ⟨_, whole_cell sC hl, clen sC hl, ?_⟩ | refine And.intro (clen sC hl) ?_ | refine And.intro (fitC hl) ?_ | refine ⟨_, setC hl, ?_⟩ | refine ⟨_, whole_cell sC hbl, clen sC hbl, ?_⟩ | refine And.intro (clen sC hbl) ?_ | refine And.intro (fitC hbl) ?_ | refine ⟨_, setC hbl, ?_⟩ | refine ⟨_, whole_z sF, clenz sF, ?_⟩ | refine ⟨_, setzF, ?_⟩ | refine And.intro (clenz sF) ?_ | refine And.intro fitzF ?_ | refine ⟨_, whole_cell sF hl, clen sF hl, ?_⟩ | refine And.intro (clen sF hl) ?_ | refine And.intro (fitF hl) ?_ | refine ⟨_, setF hl, ?_⟩ | refine ⟨_, whole_cell sF hbl, clen sF hbl, ?_⟩ | refine And.intro (clen sF hbl) ?_ | refine And.intro (fitF hbl) ?_ | refine ⟨_, setF hbl, ?_⟩ | refine And.intro (fit1 hl (by decide)) ?_ | refine And.intro (fit1 hbl (by decide)) ?_ | refine And.intro (fit1 rfl (by decide)) ?_ | refine ⟨_, sum_cell s25, rfl, ?_⟩ | refine ⟨_, set_n _, ?_⟩ | refine ⟨_, set_mn _, ?_⟩ | refine ⟨_, set_mx _, ?_⟩ | refine ⟨_, set_ce _, ?_⟩ | refine ⟨_, set_po _, ?_⟩ | refine ⟨_, set_s _, ?_⟩ | refine ⟨_, set_hi _, ?_⟩ | refine ⟨_, set_lo _, ?_⟩ | refine ⟨_, hist_cell s69 hl, whole_len s69 hl, ?_⟩ | refine ⟨_, whole_row s69 hbl, whole_len s69 hbl, ?_⟩ | refine And.intro (whole_len s69 hbl) ?_ | refine And.intro (fit69 hbl) ?_ | refine ⟨_, set69 hbl, ?_⟩ | refine And.intro (hist_fit hl hbl) ?_ | refine ⟨_, set_hh hl hbl, ?_⟩ | refine And.intro (sum_fit hl) ?_ | refine And.intro (fun _ => ?_) tf | refine And.intro ft (fun _ => ?_) | refine And.intro (by kernel_rfl) ?_ | refine And.intro (by decide) ?_ | refine And.intro (fun _ => ?_) (fun h => absurd h (by decide)) | refine And.intro (fun h => absurd h (by decide)) (fun _ => ?_) | refine ⟨_, _, r1.pu rfl rfl, ?_⟩ | refine ⟨_, _, sa.pu rfl rfl, ?_⟩ | refine ⟨_, _, wo.pu rfl rfl, ?_⟩ | refine ⟨_, _, wa.pu rfl rfl, ?_⟩ | refine ⟨_, _, ha.pu rfl rfl, ?_⟩ | fail); conv => whnf) | (refine And.intro (fun _ => ?_) (fun _ => ?_) <;> conv => whnf) | fail)
    all_goals try (exfalso; simp only [decide_eq_true_eq, decide_eq_false_iff_not, Bool.not_eq_true', Bool.not_eq_false', Bool.not_eq_true, Bool.not_eq_false, beq_iff_eq, bne_iff_ne, beq_eq_false_iff_ne, bne_eq_false_iff_eq, ne_eq, Decidable.not_not] at *; first | omega | contradiction | (simp_all; done) | (simp_all; omega))
    all_goals try (refine Or.inl ?_; conv => whnf)
  · have q : c.n = 0 := (by (try simp only [decide_eq_true_eq, decide_eq_false_iff_not, Bool.not_eq_true', Bool.not_eq_false', Bool.not_eq_true, Bool.not_eq_false, beq_iff_eq, bne_iff_ne, beq_eq_false_iff_ne, bne_eq_false_iff_eq, ne_eq, Decidable.not_not, Int.natCast_eq_zero] at *); first | omega | assumption | (simp_all; done) | (simp_all; omega))
    rw [if_pos q, if_pos q]
    have e1 : (if v < v then v else v) = v := by split <;> rfl
    rw [e1]
    all_goals refine ⟨[], ?_⟩
    repeat (any_goals (first | exact True.intro | exact rfl | with_reducible_and_instances rfl | exact (by kernel_rfl) | refine And.intro ?_ ?_))
    all_goals conv => whnf
  · have q : ¬ c.n = 0 := (by (try simp only [decide_eq_true_eq, decide_eq_false_iff_not, Bool.not_eq_true', Bool.not_eq_false', Bool.not_eq_true, Bool.not_eq_false, beq_iff_eq, bne_iff_ne, beq_eq_false_iff_ne, bne_eq_false_iff_eq, ne_eq, Decidable.not_not, Int.natCast_eq_zero] at *); first | omega | assumption | (simp_all; done) | (simp_all; omega))
    rw [if_neg q, if_neg q, min_if, max_if]
    all_goals refine ⟨[], ?_⟩
    repeat (any_goals (first | exact True.intro | exact rfl | with_reducible_and_instances rfl | exact (by kernel_rfl) | refine And.intro ?_ ?_))
    all_goals conv => whnf
end Go.Proofs.YtbjmdnemeidpjaaGreat
/- Fold of a cell. -/
namespace Go.Proofs.YtbjmdnemeidpjaaGreat
set_option linter.unusedSimpArgs false
set_option linter.unusedVariables false
open Go.RowKit
set_option maxRecDepth 100000
theorem wsum_sat (l : List Int) (hl : ∀ z ∈ l, in64 z) (hn : l.length ≤ 60000) : Sat Tryz.prog 37 [.d (lD l)] [] (.d (wD l.sum)) [] :=
  .of_sl (lR_flats l) .nil (.d (wD_flat _)) fun w A c _ _ hr => by
    rw [List.length_map] at hr ⊢
    exact sum_any A l.length c l w hr (by omega) hl
theorem build_cell {n s : Int} {h : List Int} (hh : h.length = 65) : sets (sets (sets (List.map D.v (tiOf Tryz.prog 41).zero) 0 [iD n]) 1 [iD (hiZ s), uZ (loZ s)]) 7 (hR h) = cR ⟨n, s, 0, 0, 0, 0, h⟩ := by
  rw [zeC]
  exact set_hh (n := n) (s := s) (mn := 0) (mx := 0) (ce := 0) (po := 0) (h := z65) rfl hh
theorem map_lR_get {l : List Int} {k : Nat} {x : Int} (h : l[k]? = some x) : (l.map lR)[k]? = some (lR x) := map_get h
set_option maxHeartbeats 4000000 in
theorem fold_sat_c (l : List Int) (hl : ∀ z ∈ l, in64 z) (hn : l.length ≤ 60000) : Sat Tryz.prog 22 [.d (lD l)] [] (.d (cD (foldC l))) [] := by
  have hm : (l.map lR).length = l.length := List.length_map _
  have s1 := wsum_sat l hl hn
  have o1 := of_sat l hl (by omega)
  have hh : (histL l).length = 65 := histL_len l
  have ef : foldC l = ⟨l.length, l.sum, mmin l, mmax l, 0, 0, histL l⟩ := rfl
  rw [ef]
  generalize histL l = h at *
  generalize l.sum = s at *
  refine sat_of_vc (T := tiOf Tryz.prog) (E := E0) Tryz.func22 rfl rfl hE0 hm0 rfl ?_
  conv => whnf
  iterate 2
    repeat' (first | exact True.intro | ((first | refine And.intro (whole_len s69 hh) ?_ | refine ⟨_, build_cell hh, ?_⟩ | refine ⟨_, drop_id, ?_⟩ | refine ⟨_, _, at_n, ?_⟩ | refine ⟨_, _, at_hi, ?_⟩ | refine ⟨_, _, at_lo, ?_⟩ | refine ⟨_, _, at_mn, ?_⟩ | refine ⟨_, _, at_mx, ?_⟩ | refine ⟨_, _, at_ce, ?_⟩ | refine ⟨_, _, at_po, ?_⟩ | refine ⟨_, whole_z sC, clenz sC, ?_⟩ | refine ⟨_, setzC, ?_⟩ | refine And.intro (clenz sC) ?_ | refine And.intro fitzC ?_ | refine ⟨_, whole_cell sC hh, clen sC hh, ?_⟩ | refine And.intro (clen sC hh) ?_ | refine And.intro (fitC hh) ?_ | refine ⟨_, setC hh, ?_⟩ | refine ⟨_, whole_z sF, clenz sF, ?_⟩ | refine ⟨_, setzF, ?_⟩ | refine And.intro (clenz sF) ?_ | refine And.intro fitzF ?_ | refine ⟨_, whole_cell sF hh, clen sF hh, ?_⟩ | refine And.intro (clen sF hh) ?_ | refine And.intro (fitF hh) ?_ | refine ⟨_, setF hh, ?_⟩ | refine And.intro (fit1 hh (by decide)) ?_ | refine And.intro (fit1 rfl (by decide)) ?_ | refine ⟨_, sum_cell s25, rfl, ?_⟩ | refine ⟨_, set_n _, ?_⟩ | refine ⟨_, set_mn _, ?_⟩ | refine ⟨_, set_mx _, ?_⟩ | refine ⟨_, set_ce _, ?_⟩ | refine ⟨_, set_po _, ?_⟩ | refine ⟨_, set_s _, ?_⟩ | refine ⟨_, set_hi _, ?_⟩ | refine ⟨_, set_lo _, ?_⟩ | refine And.intro (fun _ => ?_) tf | refine And.intro ft (fun _ => ?_) | refine And.intro (by kernel_rfl) ?_ | refine And.intro (by decide) ?_ | refine And.intro (fun _ => ?_) (fun h => absurd h (by decide)) | refine And.intro (fun h => absurd h (by decide)) (fun _ => ?_) | refine ⟨_, _, s1.pu rfl rfl, ?_⟩ | refine ⟨_, _, o1.pu rfl rfl, ?_⟩ | fail); conv => whnf) | (refine And.intro (fun _ => ?_) (fun _ => ?_) <;> conv => whnf) | fail)
    all_goals try (exfalso; simp only [decide_eq_true_eq, decide_eq_false_iff_not, Bool.not_eq_true', Bool.not_eq_false', Bool.not_eq_true, Bool.not_eq_false, beq_iff_eq, bne_iff_ne, beq_eq_false_iff_ne, bne_eq_false_iff_eq, ne_eq, Decidable.not_not] at *; first | omega | contradiction | (simp_all; done) | (simp_all; omega))
    all_goals try (refine Or.inl ?_; conv => whnf)
  refine ⟨Nat × Int × Int, fun y => y.1 ≤ l.length ∧ y.2.1 = mmin (l.take y.1) ∧ y.2.2 = mmax (l.take y.1), fun y => ([(15, iA y.1), (14, iA (l.map lR).length), (13, .d (lD l)), (3, .ptr 1 0), (2, .ptr 0 0)], [.row (cR zC), .row (cR ⟨l.length, s, y.2.1, y.2.2, 0, 0, h⟩)]), fun y => l.length - y.1, ⟨(0, 0, 0), ⟨Nat.zero_le _, rfl, rfl⟩, ?_⟩, ?_⟩
  · all_goals refine ⟨[], ?_⟩
    repeat (any_goals (first | exact True.intro | exact rfl | with_reducible_and_instances rfl | exact (by kernel_rfl) | refine And.intro ?_ ?_))
    all_goals conv => whnf
    show AObj.row (cR ⟨((l.map lR).length : Nat), s, 0, 0, 0, 0, h⟩) = _
    rw [hm]
  rintro ⟨k, a, b⟩ ⟨hk, ha, hb⟩
  have hk : k ≤ l.length := hk
  have ha : a = mmin (l.take k) := ha
  have hb : b = mmax (l.take k) := hb
  conv => whnf
  by_cases hlt : k < l.length
  · have hx : l[k]? = some l[k] := List.getElem?_eq_getElem hlt
    have q1 : mmin (l.take (k + 1)) = if k = 0 then l[k] else min a l[k] := by
      rw [List.take_succ_eq_append_getElem hlt, mmin_snoc, ← ha]
      by_cases e : k = 0
      · subst e; simp
      · rw [if_neg e, if_neg]; intro q; have := congrArg List.length q; rw [List.length_take, List.length_nil] at this; omega
    have q2 : mmax (l.take (k + 1)) = if k = 0 then l[k] else max b l[k] := by
      rw [List.take_succ_eq_append_getElem hlt, mmax_snoc, ← hb]
      by_cases e : k = 0
      · subst e; simp
      · rw [if_neg e, if_neg]; intro q; have := congrArg List.length q; rw [List.length_take, List.length_nil] at this; omega
    generalize l[k] = x at hx q1 q2
    by_cases e : k = 0
    · subst e
      rw [if_pos rfl] at q1 q2
      iterate 4
        repeat' (first | exact True.intro | ((first | refine ⟨_, drop_id, ?_⟩ | refine ⟨_, _, at_n, ?_⟩ | refine ⟨_, _, at_hi, ?_⟩ | refine ⟨_, _, at_lo, ?_⟩ | refine ⟨_, _, at_mn, ?_⟩ | refine ⟨_, _, at_mx, ?_⟩ | refine ⟨_, _, at_ce, ?_⟩ | refine ⟨_, _, at_po, ?_⟩ | refine ⟨_, whole_z sC, clenz sC, ?_⟩ | refine ⟨_, setzC, ?_⟩ | refine And.intro (clenz sC) ?_ | refine And.intro fitzC ?_ | refine ⟨_, whole_cell sC hh, clen sC hh, ?_⟩ | refine And.intro (clen sC hh) ?_ | refine And.intro (fitC hh) ?_ | refine ⟨_, setC hh, ?_⟩ | refine ⟨_, whole_z sF, clenz sF, ?_⟩ | refine ⟨_, setzF, ?_⟩ | refine And.intro (clenz sF) ?_ | refine And.intro fitzF ?_ | refine ⟨_, whole_cell sF hh, clen sF hh, ?_⟩ | refine And.intro (clen sF hh) ?_ | refine And.intro (fitF hh) ?_ | refine ⟨_, setF hh, ?_⟩ | refine And.intro (fit1 hh (by decide)) ?_ | refine And.intro (fit1 rfl (by decide)) ?_ | refine ⟨_, sum_cell s25, rfl, ?_⟩ | refine ⟨_, set_n _, ?_⟩ | refine ⟨_, set_mn _, ?_⟩ | refine ⟨_, set_mx _, ?_⟩ | refine ⟨_, set_ce _, ?_⟩ | refine ⟨_, set_po _, ?_⟩ | refine ⟨_, set_s _, ?_⟩ | refine ⟨_, set_hi _, ?_⟩ | refine ⟨_, set_lo _, ?_⟩ | refine ⟨0, _, rfl, map_lR_get hx, ?_⟩ | refine And.intro (fun _ => ?_) tf | refine And.intro ft (fun _ => ?_) | refine And.intro (by kernel_rfl) ?_ | refine And.intro (by decide) ?_ | refine And.intro (fun _ => ?_) (fun h => absurd h (by decide)) | refine And.intro (fun h => absurd h (by decide)) (fun _ => ?_) | fail); conv => whnf) | (refine And.intro (fun _ => ?_) (fun _ => ?_) <;> conv => whnf) | fail)
        all_goals try (exfalso; simp only [decide_eq_true_eq, decide_eq_false_iff_not, Bool.not_eq_true', Bool.not_eq_false', Bool.not_eq_true, Bool.not_eq_false, beq_iff_eq, bne_iff_ne, beq_eq_false_iff_ne, bne_eq_false_iff_eq, ne_eq, Decidable.not_not] at *; first | omega | contradiction | (simp_all; done) | (simp_all; omega))
        all_goals try (refine Or.inl ?_; conv => whnf)
      refine ⟨(0 + 1, x, x), ⟨hlt, q1.symm, q2.symm⟩, show l.length - (0 + 1) < l.length - 0 by omega, ?_⟩
      all_goals refine ⟨[], ?_⟩
      repeat (any_goals (first | exact True.intro | exact rfl | with_reducible_and_instances rfl | exact (by kernel_rfl) | refine And.intro ?_ ?_))
      all_goals conv => whnf
      show AObj.row (cR ⟨l.length, s, if x < x then x else x, if x > x then x else x, 0, 0, h⟩) = AObj.row (cR ⟨l.length, s, x, x, 0, 0, h⟩)
      rw [show (if x < x then x else x) = x by split <;> rfl]
    · rw [if_neg e] at q1 q2
      iterate 4
        repeat' (first | exact True.intro | ((first | refine ⟨_, drop_id, ?_⟩ | refine ⟨_, _, at_n, ?_⟩ | refine ⟨_, _, at_hi, ?_⟩ | refine ⟨_, _, at_lo, ?_⟩ | refine ⟨_, _, at_mn, ?_⟩ | refine ⟨_, _, at_mx, ?_⟩ | refine ⟨_, _, at_ce, ?_⟩ | refine ⟨_, _, at_po, ?_⟩ | refine ⟨_, whole_z sC, clenz sC, ?_⟩ | refine ⟨_, setzC, ?_⟩ | refine And.intro (clenz sC) ?_ | refine And.intro fitzC ?_ | refine ⟨_, whole_cell sC hh, clen sC hh, ?_⟩ | refine And.intro (clen sC hh) ?_ | refine And.intro (fitC hh) ?_ | refine ⟨_, setC hh, ?_⟩ | refine ⟨_, whole_z sF, clenz sF, ?_⟩ | refine ⟨_, setzF, ?_⟩ | refine And.intro (clenz sF) ?_ | refine And.intro fitzF ?_ | refine ⟨_, whole_cell sF hh, clen sF hh, ?_⟩ | refine And.intro (clen sF hh) ?_ | refine And.intro (fitF hh) ?_ | refine ⟨_, setF hh, ?_⟩ | refine And.intro (fit1 hh (by decide)) ?_ | refine And.intro (fit1 rfl (by decide)) ?_ | refine ⟨_, sum_cell s25, rfl, ?_⟩ | refine ⟨_, set_n _, ?_⟩ | refine ⟨_, set_mn _, ?_⟩ | refine ⟨_, set_mx _, ?_⟩ | refine ⟨_, set_ce _, ?_⟩ | refine ⟨_, set_po _, ?_⟩ | refine ⟨_, set_s _, ?_⟩ | refine ⟨_, set_hi _, ?_⟩ | refine ⟨_, set_lo _, ?_⟩ | refine ⟨k, _, rfl, map_lR_get hx, ?_⟩ | refine And.intro (fun _ => ?_) tf | refine And.intro ft (fun _ => ?_) | refine And.intro (by kernel_rfl) ?_ | refine And.intro (by decide) ?_ | refine And.intro (fun _ => ?_) (fun h => absurd h (by decide)) | refine And.intro (fun h => absurd h (by decide)) (fun _ => ?_) | fail); conv => whnf) | (refine And.intro (fun _ => ?_) (fun _ => ?_) <;> conv => whnf) | fail)
        all_goals try (exfalso; simp only [decide_eq_true_eq, decide_eq_false_iff_not, Bool.not_eq_true', Bool.not_eq_false', Bool.not_eq_true, Bool.not_eq_false, beq_iff_eq, bne_iff_ne, beq_eq_false_iff_ne, bne_eq_false_iff_eq, ne_eq, Decidable.not_not] at *; first | omega | contradiction | (simp_all; done) | (simp_all; omega))
        all_goals try (refine Or.inl ?_; conv => whnf)
      refine ⟨(k + 1, min a x, max b x), ⟨hlt, q1.symm, q2.symm⟩, show l.length - (k + 1) < l.length - k by omega, ?_⟩
      all_goals refine ⟨[], ?_⟩
      repeat (any_goals (first | exact True.intro | exact rfl | with_reducible_and_instances rfl | exact (by kernel_rfl) | refine And.intro ?_ ?_))
      all_goals conv => whnf
      · exact wk1 (by omega)
      · show AObj.row (cR ⟨l.length, s, if x < a then x else a, if x > b then x else b, 0, 0, h⟩) = AObj.row (cR ⟨l.length, s, min a x, max b x, 0, 0, h⟩)
        rw [min_if, max_if]
  · have hke : k = l.length := by omega
    subst hke
    rw [List.take_of_length_le (by omega)] at ha hb
    iterate 3
      repeat' (first | exact True.intro | ((first | refine ⟨_, drop_id, ?_⟩ | refine ⟨_, _, at_n, ?_⟩ | refine ⟨_, _, at_hi, ?_⟩ | refine ⟨_, _, at_lo, ?_⟩ | refine ⟨_, _, at_mn, ?_⟩ | refine ⟨_, _, at_mx, ?_⟩ | refine ⟨_, _, at_ce, ?_⟩ | refine ⟨_, _, at_po, ?_⟩ | refine ⟨_, whole_z sC, clenz sC, ?_⟩ | refine ⟨_, setzC, ?_⟩ | refine And.intro (clenz sC) ?_ | refine And.intro fitzC ?_ | refine ⟨_, whole_cell sC hh, clen sC hh, ?_⟩ | refine And.intro (clen sC hh) ?_ | refine And.intro (fitC hh) ?_ | refine ⟨_, setC hh, ?_⟩ | refine ⟨_, whole_z sF, clenz sF, ?_⟩ | refine ⟨_, setzF, ?_⟩ | refine And.intro (clenz sF) ?_ | refine And.intro fitzF ?_ | refine ⟨_, whole_cell sF hh, clen sF hh, ?_⟩ | refine And.intro (clen sF hh) ?_ | refine And.intro (fitF hh) ?_ | refine ⟨_, setF hh, ?_⟩ | refine And.intro (fit1 hh (by decide)) ?_ | refine And.intro (fit1 rfl (by decide)) ?_ | refine ⟨_, sum_cell s25, rfl, ?_⟩ | refine ⟨_, set_n _, ?_⟩ | refine ⟨_, set_mn _, ?_⟩ | refine ⟨_, set_mx _, ?_⟩ | refine ⟨_, set_ce _, ?_⟩ | refine ⟨_, set_po _, ?_⟩ | refine ⟨_, set_s _, ?_⟩ | refine ⟨_, set_hi _, ?_⟩ | refine ⟨_, set_lo _, ?_⟩ | refine And.intro (fun _ => ?_) tf | refine And.intro ft (fun _ => ?_) | refine And.intro (by kernel_rfl) ?_ | refine And.intro (by decide) ?_ | refine And.intro (fun _ => ?_) (fun h => absurd h (by decide)) | refine And.intro (fun h => absurd h (by decide)) (fun _ => ?_) | fail); conv => whnf) | (refine And.intro (fun _ => ?_) (fun _ => ?_) <;> conv => whnf) | fail)
      all_goals try (exfalso; simp only [decide_eq_true_eq, decide_eq_false_iff_not, Bool.not_eq_true', Bool.not_eq_false', Bool.not_eq_true, Bool.not_eq_false, beq_iff_eq, bne_iff_ne, beq_eq_false_iff_ne, bne_eq_false_iff_eq, ne_eq, Decidable.not_not] at *; first | omega | contradiction | (simp_all; done) | (simp_all; omega))
      all_goals try (refine Or.inl ?_; conv => whnf)
    rw [← ha, ← hb]
    all_goals refine ⟨[], ?_⟩
    repeat (any_goals (first | exact True.intro | exact rfl | with_reducible_and_instances rfl | exact (by kernel_rfl) | refine And.intro ?_ ?_))
    all_goals conv => whnf
end Go.Proofs.YtbjmdnemeidpjaaGreat
/- Arrays and structs of numbers and bools, however deep, are compared. No program is named here. -/
namespace Go.Proofs.YtbjmdnemeidpjaaGreat
set_option linter.unusedSimpArgs false
set_option linter.unusedVariables false
open Go.RowKit
set_option linter.unusedSectionVars false
/-- What a cell holds: a bool, or a number of a kind. -/
abbrev Kd := Option IntKind
def okV : Kd → Value → Prop
  | none, v => ∃ b, v = .bool b
  | some q, v => ∃ z, v = .int q z ∧ (Lit.int q z).wf = true
def okL : List Kd → List Value → Prop
  | [], vs => vs = []
  | k :: ks, vs => ∃ v r, vs = v :: r ∧ okV k v ∧ okL ks r
def litV : Value → Lit
  | .bool b => .bool b
  | .int q z => .int q z
  | _ => .bool false
theorem okL_len : ∀ {ks : List Kd} {vs : List Value}, okL ks vs → vs.length = ks.length
  | [], _, h => by cases h; rfl
  | _ :: _, _, ⟨_, _, rfl, _, h⟩ => by simp [okL_len h]
theorem okL_app : ∀ {las bs : List Kd} {vs : List Value}, okL (las ++ bs) vs → ∃ x y, vs = x ++ y ∧ okL las x ∧ okL bs y
  | [], _, vs, h => ⟨[], vs, rfl, rfl, h⟩
  | _ :: _, _, _, ⟨v, r, rfl, h1, h⟩ => by
    obtain ⟨x, y, rfl, h2, h3⟩ := okL_app h
    exact ⟨v :: x, y, rfl, ⟨v, x, rfl, h1, h2⟩, h3⟩
theorem litV_inj : ∀ {ks : List Kd} {us vs : List Value}, okL ks us → okL ks vs → (us.map litV = vs.map litV ↔ us = vs)
  | [], _, _, h, h' => by cases h; cases h'; simp
  | none :: ks, _, _, ⟨_, r, rfl, ⟨b, rfl⟩, h⟩, ⟨_, r', rfl, ⟨b', rfl⟩, h'⟩ => by
    simp [litV, litV_inj h h']
  | some q :: ks, _, _, ⟨_, r, rfl, ⟨z, rfl, _⟩, h⟩, ⟨_, r', rfl, ⟨z', rfl, _⟩, h'⟩ => by
    simp [litV, litV_inj h h']
section
variable {P : Program} {L : List AObj} {ty n : Nat} {x y : Operand} {t t' : TypeId}
def fieldsK (P : Program) (k : TypeId → Option (List Kd)) : List Field → Nat → Option (List Kd)
  | [], _ => some []
  | f :: fs, o => match Nat.beq f.offset o, k f.type with
    | true, some a => (match Nat.beq a.length (P.cellsOf f.type), fieldsK P k fs (o + a.length) with
      | true, some b => some (a ++ b)
      | _, _ => none)
    | _, _ => none
def kinds (P : Program) : Nat → TypeId → Option (List Kd)
  | 0, _ => none
  | m + 1, t => match P.underlying t with
    | some .bool => some [none]
    | some (.int q) => some [some q]
    | some (.array n e) => (match kinds P m e with
      | some ks => if ks.length = P.cellsOf e ∧ n * ks.length = P.cellsOf t then some (List.replicate n ks).flatten else none
      | none => none)
    | some (.struct fs) => (match fieldsK P (kinds P m) fs.toList 0 with
      | some ks => if ks.length = P.cellsOf t ∧ fs.all (·.name != "_") = true then some ks else none
      | none => none)
    | _ => none
theorem fieldsK_lits {k : TypeId → Option (List Kd)} {K : TypeId → List Value → Option (List Lit)} (hk : ∀ t ks us, k t = some ks → okL ks us → K t us = some (us.map litV)) (vs : List Value) : ∀ (fs : List Field) (o : Nat) (ks : List Kd), fieldsK P k fs o = some ks → okL ks (vs.drop o) →
    ∃ las, fs.mapM (fun f => K f.type ((vs.drop f.offset).take (P.cellsOf f.type))) = some las ∧ las.flatten = (vs.drop o).map litV
  | [], o, ks, h, hv => by
    have h : some [] = some ks := h
    cases h
    have hv : vs.drop o = [] := hv
    exact ⟨[], rfl, by rw [hv]; rfl⟩
  | f :: fs, o, ks, h, hv => by
    unfold fieldsK at h
    split at h
    · rename_i a h1 h2
      have h1 := Nat.eq_of_beq_eq_true h1
      split at h
      · rename_i b h3 h4
        have h3 := Nat.eq_of_beq_eq_true h3
        cases h
        obtain ⟨u, w, e, hu, hw⟩ := okL_app hv
        have hul := okL_len hu
        have e1 : (vs.drop f.offset).take (P.cellsOf f.type) = u := by rw [h1, e, List.take_left' (by omega)]
        have e2 : vs.drop (o + a.length) = w := by rw [← List.drop_drop, e, List.drop_left' hul]
        obtain ⟨las, g1, g2⟩ := fieldsK_lits hk vs fs _ b h4 (by rw [e2]; exact hw)
        refine ⟨u.map litV :: las, ?_, ?_⟩
        · rw [List.mapM_cons, e1, hk _ _ _ h2 hu, g1]; rfl
        · rw [List.flatten_cons, g2, e2, e, List.map_append]
      · cases h
    · cases h
theorem array_lits {ks : List Kd} {c : Nat} {K : List Value → Option (List Lit)} (hK : ∀ us, okL ks us → K us = some (us.map litV)) (hc : ks.length = c) (vs : List Value) : ∀ (n s : Nat), okL (List.replicate n ks).flatten (vs.drop (s * c)) →
    ∃ las, (List.range' s n).mapM (fun i => K ((vs.drop (i * c)).take c)) = some las ∧ las.flatten = (vs.drop (s * c)).map litV
  | 0, s, h => by
    have h : vs.drop (s * c) = [] := h
    exact ⟨[], rfl, by rw [h]; rfl⟩
  | n + 1, s, h => by
    rw [List.replicate_succ, List.flatten_cons] at h
    obtain ⟨u, w, e, hu, hw⟩ := okL_app h
    have hul := okL_len hu
    have e1 : (vs.drop (s * c)).take c = u := by rw [e, List.take_left' (by omega)]
    have e2 : vs.drop ((s + 1) * c) = w := by rw [Nat.add_mul, Nat.one_mul, ← List.drop_drop, e, List.drop_left' (by omega)]
    obtain ⟨las, g1, g2⟩ := array_lits hK hc vs n (s + 1) (by rw [e2]; exact hw)
    refine ⟨u.map litV :: las, ?_, ?_⟩
    · rw [List.range'_succ, List.mapM_cons, e1, hK _ hu, g1]; rfl
    · rw [List.flatten_cons, g2, e2, e, List.map_append]
theorem kinds_lits : ∀ (m : Nat) (t : TypeId) (ks : List Kd) (us : List Value), kinds P m t = some ks → okL ks us → P.keyLits m t us = some (us.map litV)
  | 0, _, _, _, h, _ => by cases h
  | m + 1, t, ks, us, h, hu => by
    unfold kinds at h
    have hl := okL_len hu
    split at h
    · rename_i hy
      cases h
      obtain ⟨v, r, rfl, ⟨b, rfl⟩, hr⟩ := hu
      have hr : r = [] := hr
      subst hr
      simp [Program.keyLits, hy, litV]
    · rename_i q hy
      cases h
      obtain ⟨v, r, rfl, ⟨z, rfl, hz⟩, hr⟩ := hu
      have hr : r = [] := hr
      subst hr
      simp [Program.keyLits, hy, litV, hz]
    · rename_i n e hy
      split at h
      · rename_i ks0 hk0
        split at h
        · rename_i hc
          cases h
          have hlen : (List.replicate n ks0).flatten.length = n * ks0.length := by simp
          unfold Program.keyLits
          rw [hy]
          have := array_lits (K := P.keyLits m e) (fun us hu => kinds_lits m e ks0 us hk0 hu) hc.1 us n 0 (by simpa using hu)
          obtain ⟨las, g1, g2⟩ := this
          simp only []
          rw [if_pos (by rw [hl, hlen]; exact hc.2), List.range_eq_range', g1]
          simp [g2]
        · cases h
      · cases h
    · rename_i fs hy
      split at h
      · rename_i ks0 hk0
        split at h
        · rename_i hc
          cases h
          unfold Program.keyLits
          rw [hy]
          obtain ⟨las, g1, g2⟩ := fieldsK_lits (K := P.keyLits m) (fun t ks us h1 h2 => kinds_lits m t ks us h1 h2) us fs.toList 0 ks hk0 (by simpa using hu)
          simp only []
          rw [if_pos ⟨by rw [hl]; exact hc.1, hc.2⟩, g1]
          simp [g2]
        · cases h
      · cases h
    · cases h
def wideT (P : Program) (t : TypeId) : Bool := match P.underlying t with | some (.array _ _) => true | some (.struct _) => true | _ => false
def scB (P : Program) (t : TypeId) (ks : List Kd) : Bool := P.keyTypeAt 8 t && wideT P t && !P.eqGuardType P.depth t && decide (kinds P 8 t = some ks) && Nat.beq ks.length (P.cellsOf t)
theorem formed_wide {us : List Value} (h : wideT P t = true) (hl : us.length = P.cellsOf t) : (Value.agg us.toArray).formed P t = true := by
  unfold wideT at h
  split at h
  · rename_i hy; simp [Value.formed, hy, hl]
  · rename_i hy; simp [Value.formed, hy, hl]
  · cases h
theorem run_scalars {ks : List Kd} (h : scB P t ks = true) {us vs : List Value} (hu : okL ks us) (hv : okL ks vs) {b : Bool} (hb : b = true ↔ us = vs) (w : World) : (Op.equalIn 10000 t (.agg us.toArray) (.agg vs.toArray)).run P w = .ok b w := by
  unfold scB at h
  simp only [Bool.and_eq_true, Bool.not_eq_true', decide_eq_true_eq] at h
  obtain ⟨⟨⟨⟨h1, h2⟩, h3⟩, h4⟩, h5⟩ := h
  have h5 := Nat.eq_of_beq_eq_true h5
  have hE : EqAt P 10000 t := run_equalIn_deep 9992 8 t h1
  obtain ⟨r, hr, hiff⟩ := hE w 8 8 _ _ _ _ (formed_wide (us := us) h2 (by rw [okL_len hu, h5])) (formed_wide (us := vs) h2 (by rw [okL_len hv, h5])) (kinds_lits 8 t ks _ h4 (by simpa [Value.cells] using hu)) (kinds_lits 8 t ks _ h4 (by simpa [Value.cells] using hv))
  rw [hr]
  have e : r = b := by
    rw [Bool.eq_iff_iff, hiff, hb]
    simpa [Value.cells] using litV_inj hu hv
  rw [e]
theorem eqSc {ks : List Kd} (h : scB P t ks = true) {xs ys : List D} {us vs : List Value} (fx : FlatVs xs us) (fy : FlatVs ys vs) (hu : okL ks us) (hv : okL ks vs) {b : Bool} (hb : b = true ↔ us = vs) :
    Does P (.binOp .eql t x y t') ty L n [.d (.agg xs), .d (.agg ys)] e0 (.d (.v (.bool b))) :=
  does_ra2 rfl fun o w F ρ ev u v ho h1 h2 hu' hv' => by
    have := FlatW.eq (.d (.agg fx)) hu'
    subst this
    have := FlatW.eq (.d (.agg fy)) hv'
    subst this
    have hg : P.eqGuardType P.depth t = false := by
      unfold scB at h
      simp only [Bool.and_eq_true, Bool.not_eq_true'] at h
      exact h.1.1.2
    exact exec_eq ho h1 h2 (run_eqGuard_agg w .eql _ _ _ _ _ hg) (by rw [run_eql_struct, run_scalars h hu hv hb]; rfl)
theorem neSc {ks : List Kd} (h : scB P t ks = true) {xs ys : List D} {us vs : List Value} (fx : FlatVs xs us) (fy : FlatVs ys vs) (hu : okL ks us) (hv : okL ks vs) {b : Bool} (hb : b = true ↔ us = vs) :
    Does P (.binOp .neq t x y t') ty L n [.d (.agg xs), .d (.agg ys)] e0 (.d (.v (.bool (!b)))) :=
  does_ra2 rfl fun o w F ρ ev u v ho h1 h2 hu' hv' => by
    have := FlatW.eq (.d (.agg fx)) hu'
    subst this
    have := FlatW.eq (.d (.agg fy)) hv'
    subst this
    have hg : P.eqGuardType P.depth t = false := by
      unfold scB at h
      simp only [Bool.and_eq_true, Bool.not_eq_true'] at h
      exact h.1.1.2
    exact exec_eq ho h1 h2 (run_eqGuard_agg w .neq _ _ _ _ _ hg) (by rw [run_neq_struct, run_scalars h hu hv hb]; rfl)
end
end Go.Proofs.YtbjmdnemeidpjaaGreat
/- Cells are compared; Merge. -/
namespace Go.Proofs.YtbjmdnemeidpjaaGreat
set_option linter.unusedSimpArgs false
set_option linter.unusedVariables false
open Go.RowKit
set_option maxRecDepth 100000
def uv (z : Int) : Value := .int .u64 z
def clV (c : Cel) : List Value := i64v c.n :: i64v (hiZ c.s) :: uv (loZ c.s) :: i64v c.mn :: i64v c.mx :: i64v c.ce :: i64v c.po :: c.h.map i64v
theorem cR_flat (c : Cel) : FlatVs (cR c) (clV c) := .cons (.v _) rfl (.cons (.v _) rfl (.cons (.v _) rfl (.cons (.v _) rfl (.cons (.v _) rfl (.cons (.v _) rfl (.cons (.v _) rfl (hR_flat c.h)))))))
theorem wf64 {z : Int} (h : in64 z) : (Lit.int .i64 z).wf = true := by
  unfold in64 at h
  simp only [Lit.wf, Bool.and_eq_true, decide_eq_true_eq]
  exact ⟨h.1, h.2⟩
theorem wfu {z : Int} (h : 0 ≤ z ∧ z < word) : (Lit.int .u64 z).wf = true := by
  unfold word at h
  simp only [Lit.wf, Bool.and_eq_true, decide_eq_true_eq]
  exact ⟨h.1, Int.le_of_lt_add_one h.2⟩
abbrev kC : List Kd := some .i64 :: some .i64 :: some .u64 :: some .i64 :: some .i64 :: some .i64 :: some .i64 :: List.replicate 65 (some .i64)
theorem okL_longs : ∀ {l : List Int} {n : Nat}, l.length = n → (∀ z ∈ l, in64 z) → okL (List.replicate n (some .i64)) (l.map i64v)
  | [], 0, _, _ => rfl
  | z :: l, n + 1, h, hx => ⟨_, _, rfl, ⟨z, rfl, wf64 (hx z (List.mem_cons_self ..))⟩, okL_longs (by simpa using h) fun y hy => hx y (List.mem_cons_of_mem _ hy)⟩
  | [], n + 1, h, _ => by simp at h
  | _ :: _, 0, h, _ => by simp at h
theorem clV_ok {c : Cel} (h : CelOK c) : okL kC (clV c) :=
  ⟨_, _, rfl, ⟨_, rfl, wf64 h.n⟩, _, _, rfl, ⟨_, rfl, wf64 h.s⟩, _, _, rfl, ⟨_, rfl, wfu (by unfold loZ word; omega)⟩, _, _, rfl, ⟨_, rfl, wf64 h.mn⟩, _, _, rfl, ⟨_, rfl, wf64 h.mx⟩, _, _, rfl, ⟨_, rfl, wf64 h.ce⟩, _, _, rfl, ⟨_, rfl, wf64 h.po⟩, okL_longs h.hl h.hx⟩
theorem i64v_inj {a b : Int} (h : i64v a = i64v b) : a = b := by unfold i64v at h; injection h
theorem clV_inj (c d : Cel) : decide (c = d) = true ↔ clV c = clV d := by
  rw [decide_eq_true_eq]
  refine ⟨fun h => by rw [h], fun h => ?_⟩
  unfold clV uv at h
  simp only [List.cons.injEq, Value.int.injEq, true_and] at h
  obtain ⟨h1, h2, h3, h4, h5, h6, h7, h8⟩ := h
  refine Cel.ext' (i64v_inj h1) ?_ (i64v_inj h4) (i64v_inj h5) (i64v_inj h6) (i64v_inj h7) ?_
  · rw [← wide_split c.s, ← wide_split d.s, i64v_inj h2, h3]
  · exact (List.map_inj_right (fun a b q => i64v_inj q)).1 h8
section
variable {L : List AObj} {ty n : Nat} {x y : Operand} {t' : TypeId} {c d : Cel}
theorem scC : scB Tryz.prog 41 kC = true := by kernel_rfl
theorem scF : scB Tryz.prog 49 kC = true := by kernel_rfl
theorem eqCC (hc : CelOK c) (hd : CelOK d) : Does Tryz.prog (.binOp .eql 41 x y t') ty L n [.d (cD c), .d (cD d)] e0 (bA (decide (c = d))) := eqSc scC (cR_flat c) (cR_flat d) (clV_ok hc) (clV_ok hd) (clV_inj c d)
theorem neCC (hc : CelOK c) (hd : CelOK d) : Does Tryz.prog (.binOp .neq 41 x y t') ty L n [.d (cD c), .d (cD d)] e0 (bA (!decide (c = d))) := neSc scC (cR_flat c) (cR_flat d) (clV_ok hc) (clV_ok hd) (clV_inj c d)
theorem eqFF (hc : CelOK c) (hd : CelOK d) : Does Tryz.prog (.binOp .eql 49 x y t') ty L n [.d (cD c), .d (cD d)] e0 (bA (decide (c = d))) := eqSc scF (cR_flat c) (cR_flat d) (clV_ok hc) (clV_ok hd) (clV_inj c d)
theorem neFF (hc : CelOK c) (hd : CelOK d) : Does Tryz.prog (.binOp .neq 49 x y t') ty L n [.d (cD c), .d (cD d)] e0 (bA (!decide (c = d))) := neSc scF (cR_flat c) (cR_flat d) (clV_ok hc) (clV_ok hd) (clV_inj c d)
abbrev bD (b : Bool) : D := .v (.bool b)
abbrev fitB (a b c d : Bool) : List D := [bD a, bD b, bD c, bD d]
end
end Go.Proofs.YtbjmdnemeidpjaaGreat
/- Merge of cells, its plain part. -/
namespace Go.Proofs.YtbjmdnemeidpjaaGreat
set_option linter.unusedSimpArgs false
set_option linter.unusedVariables false
open Go.RowKit
set_option maxRecDepth 100000
theorem full_succ {l : List Cel} {k : Nat} {c : Cel} (h : l[k]? = some c) : full (l.take (k + 1)) = full (l.take k) ++ (if c.n = 0 then [] else [c]) := by
  obtain ⟨hk, rfl⟩ := List.getElem?_eq_some_iff.1 h
  unfold full
  rw [List.take_succ_eq_append_getElem hk, List.filter_append]
  congr 1
  by_cases e : l[k].n = 0
  · rw [if_pos e]; simp [e]
  · rw [if_neg e]; simp [e]
theorem sumAt_le {l : List Cel} (hr : ∀ c ∈ l, RightC c) (hl : ∀ c ∈ l, c.h.length = 65) {k : Nat} (hk : k < 65) : sumAt (l.map (·.h)) k ≤ sumN l := by
  induction l with
  | nil => exact Int.le_refl _
  | cons c l ih =>
    have := ih (fun d hd => hr d (List.mem_cons_of_mem _ hd)) (fun d hd => hl d (List.mem_cons_of_mem _ hd))
    have h1 := (hAt_le (hr c (List.mem_cons_self ..)) (hl c (List.mem_cons_self ..)) hk).2
    unfold hAt at h1
    unfold sumAt sumN at *
    simp only [List.map_cons, List.sum_cons] at *
    omega
theorem fits_iff {l : List Cel} : fitsC l = (decide (sumN l ≤ 9223372036854775807) && decide (sumCe l ≤ 9223372036854775807) && decide (sumPo l ≤ 9223372036854775807) && decide (in128 (sumS l))) := by
  unfold fitsC big
  rw [Bool.eq_iff_iff]
  simp only [Bool.and_eq_true, decide_eq_true_eq, and_assoc]
theorem all_take_right {l : List Cel} {k : Nat} {c : Cel} (h : l[k]? = some c) : (l.take (k + 1)).all rightC = ((l.take k).all rightC && rightC c) := all_take_succ h
end Go.Proofs.YtbjmdnemeidpjaaGreat
/- Merge of cells. -/
namespace Go.Proofs.YtbjmdnemeidpjaaGreat
set_option linter.unusedSimpArgs false
set_option linter.unusedVariables false
open Go.RowKit
set_option maxRecDepth 100000
theorem noLt {l : List Cel} (q : decide ((l.length : Int) < ((l.map cR).length : Int)) = true) : False := by
  have := of_decide_eq_true q
  rw [List.length_map] at this
  omega
theorem noGe {l : List Cel} {k : Nat} (h : k < l.length) (q : decide ((k : Int) < ((l.map cR).length : Int)) = false) : False := by
  have := of_decide_eq_false q
  rw [List.length_map] at this
  omega
end Go.Proofs.YtbjmdnemeidpjaaGreat
/- What a cell is after Add, Note, whatever they answer. -/
namespace Go.Proofs.YtbjmdnemeidpjaaGreat
set_option linter.unusedSimpArgs false
set_option linter.unusedVariables false
set_option maxRecDepth 100000
theorem zC_ok : CelOK zC := ⟨by decide, by decide, by decide, by decide, by decide, by decide, by decide, by decide⟩
theorem addC_okA {c : Cel} {v : Int} (hc : CelOK c) (hv : in64 v) : CelOK (addC c v).1 := by
  by_cases hr : rightC c = true
  · by_cases hn : c.n = big
    · have e : addC c v = (zC, 12) := by unfold addC; rw [if_neg (by rw [hr]; simp), if_pos hn]
      rw [e]; exact zC_ok
    · by_cases hs : in128 (c.s + v)
      · exact addC_ok hc (right_iff.1 hr) hv hn hs
      · have e : addC c v = (zC, 12) := by unfold addC; rw [if_neg (by rw [hr]; simp), if_neg hn, if_pos hs]
        rw [e]; exact zC_ok
  · have e : addC c v = (zC, 10) := by unfold addC; rw [if_pos (by simpa using hr)]
    rw [e]; exact zC_ok
theorem noteC_okA {c : Cel} {b : Bool} (hc : CelOK c) : CelOK (noteC c b).1 := by
  by_cases hr : rightC c = true
  · by_cases hn : (if b then c.ce else c.po) = big
    · have e : noteC c b = (zC, 12) := by unfold noteC; rw [if_neg (by rw [hr]; simp), if_pos hn]
      rw [e]; exact zC_ok
    · exact noteC_ok hc (right_iff.1 hr) hn
  · have e : noteC c b = (zC, 10) := by unfold noteC; rw [if_pos (by simpa using hr)]
    rw [e]; exact zC_ok
end Go.Proofs.YtbjmdnemeidpjaaGreat
/- Maps of the call's own: made, looked up, written, shortened, counted. No program is named here. -/
namespace Go.Proofs.YtbjmdnemeidpjaaGreat
set_option linter.unusedSimpArgs false
set_option linter.unusedVariables false
open Go.RowKit
set_option linter.unusedSectionVars false
/-! ### closed data as values -/
def vOf : D → Value
  | .v u => u
  | .agg ds => .agg (ds.map unD).toArray
  | .sl _ _ => undef
def closedC : List D → Bool
  | [] => true
  | .v u :: r => u.oneCell' && closedC r
  | _ :: _ => false
def closedD : D → Bool
  | .v _ => true
  | .agg ds => closedC ds
  | .sl _ _ => false
theorem closedC_flat : ∀ {ds : List D}, closedC ds = true → FlatVs ds (ds.map unD)
  | [], _ => .nil
  | .v u :: r, h => by
    simp only [closedC, Bool.and_eq_true] at h
    exact .cons (.v u) h.1 (closedC_flat h.2)
  | .agg _ :: _, h => by simp [closedC] at h
  | .sl _ _ :: _, h => by simp [closedC] at h
theorem closed_flat {x : D} (h : closedD x = true) : FlatV x (vOf x) := by
  cases x with
  | v u => exact .v u
  | agg ds => exact .agg (closedC_flat h)
  | sl s r => cases h
/-! ### a map as a list: keys, elements, births -/
section
variable {κ ν : Type} [DecidableEq κ]
abbrev Es (κ ν : Type) := List (κ × ν × Nat)
def atX (l : Es κ ν) (k : κ) : Option Nat := (l.map (·.1)).findIdx? fun x => decide (x = k)
def findX (l : Es κ ν) (k : κ) : Option ν := (l.find? fun p => decide (p.1 = k)).map (·.2.1)
def hasX (l : Es κ ν) (k : κ) : Bool := (findX l k).isSome
def putX (k : κ) (v : ν) (c : Nat) : Es κ ν → Es κ ν
  | [] => [(k, v, c)]
  | p :: r => if p.1 = k then (k, v, p.2.2) :: r else p :: putX k v c r
def clkX (k : κ) (l : Es κ ν) (c : Nat) : Nat := if hasX l k then c else c + 1
def delX (k : κ) : Es κ ν → Es κ ν
  | [] => []
  | p :: r => if p.1 = k then r else p :: delX k r
def entryOf (ek : κ → D) (ev : ν → D) (p : κ × ν × Nat) : MapEntry := { key := vOf (ek p.1), val := vOf (ev p.2.1), born := p.2.2 }
/-- A map object of just these entries. -/
def mapQ (ek : κ → D) (ev : ν → D) (l : Es κ ν) (c : Nat) (o : Obj) : Prop := o = .map (l.map (entryOf ek ev)).toArray c
abbrev mapO (ek : κ → D) (ev : ν → D) (l : Es κ ν) (c : Nat) : AObj := .obj (mapQ ek ev l c)
/-- A type of keys. -/
structure KeyT (P : Program) (kt : TypeId) (ek : κ → D) : Prop where
  cl : ∀ k, closedD (ek k) = true
  chk : ∀ (b : Bool) (k : κ) (w : World), (Instr.checkKey b 10000 kt (vOf (ek k))).run P w = .ok () w
  fnd : ∀ (k : κ) (ks : List κ) (es : List MapEntry) (w : World), es.map (·.key) = ks.map (fun k => vOf (ek k)) → (Instr.findKey kt (vOf (ek k)) es).run P w = .ok ((ks.findIdx? fun x => decide (x = k)).bind fun i => (es[i]?).map fun e => (i, e.val)) w
  same : ∀ k, Instr.sameBits 10000 (vOf (ek k)) (vOf (ek k)) = true
theorem findX_idx (m : Es κ ν) (k : κ) : findX m k = (atX m k).bind fun i => (m[i]?).map (·.2.1) := by
  unfold findX atX
  induction m with
  | nil => rfl
  | cons p m ih =>
    rw [List.find?_cons, List.map_cons, List.findIdx?_cons]
    by_cases h : p.1 = k
    · simp [h]
    · simp only [h, decide_false, Bool.false_eq_true, if_false]
      rw [ih]
      cases (m.map (·.1)).findIdx? fun x => decide (x = k) <;> simp
theorem putX_idx (m : Es κ ν) (k : κ) (v : ν) (c : Nat) : putX k v c m = match atX m k with | some i => m.modify i (fun p => (k, v, p.2.2)) | none => m ++ [(k, v, c)] := by
  unfold atX
  induction m with
  | nil => rfl
  | cons p m ih =>
    rw [putX, List.map_cons, List.findIdx?_cons]
    by_cases h : p.1 = k
    · simp [h]
    · simp only [h, decide_false, Bool.false_eq_true, if_false]
      rw [ih]
      cases (m.map (·.1)).findIdx? fun x => decide (x = k) <;> simp
theorem delX_idx (m : Es κ ν) (k : κ) : delX k m = match atX m k with | some i => m.eraseIdx i | none => m := by
  unfold atX
  induction m with
  | nil => rfl
  | cons p m ih =>
    rw [delX, List.map_cons, List.findIdx?_cons]
    by_cases h : p.1 = k
    · simp [h]
    · simp only [h, decide_false, Bool.false_eq_true, if_false]
      rw [ih]
      cases (m.map (·.1)).findIdx? fun x => decide (x = k) <;> simp
theorem findIdx_lt {l : List κ} {p : κ → Bool} {i : Nat} (h : l.findIdx? p = some i) : i < l.length ∧ ∀ x, l[i]? = some x → p x = true := by
  induction l generalizing i with
  | nil => simp at h
  | cons y l ih =>
    rw [List.findIdx?_cons] at h
    by_cases hp : p y = true
    · rw [if_pos hp] at h; injection h with h; subst h
      exact ⟨by simp, fun x hx => by simp at hx; subst hx; exact hp⟩
    · rw [if_neg hp] at h
      cases hq : l.findIdx? p with
      | none => rw [hq] at h; cases h
      | some j =>
        rw [hq] at h; simp at h; subst h
        obtain ⟨h1, h2⟩ := ih hq
        exact ⟨by simp; exact h1, fun x hx => h2 x (by simpa using hx)⟩
end
section
variable {P : Program} {w w' : World} {F F' : Nat → Prop} {ρ ρ' : Nat → Option Value} {H : Hp} {L : List AObj} {ty n : Nat} {κ ν : Type} [DecidableEq κ] {ek : κ → D} {ev : ν → D} {m : Es κ ν} {c : Nat} {t kt et : TypeId} {i j : Nat} {k : κ} {v : ν} {mx kx vx : Operand}
/-- The map behind a handle. -/
theorem Env.mapAt (E : Env F ρ H w) (hi : H i = some (mapO ek ev m c)) {u : Value} (hu : RA w F ρ (.mp i) u) :
    ∃ b, u = .map (some b) ∧ ρ i = some (.map (some b)) ∧ w.heap[b]? = some (.map (m.map (entryOf ek ev)).toArray c) := by
  cases hu with | mp hρ =>
    rename_i b
    obtain ⟨hh, e1, ⟨b', o, hb, ho, h1⟩, e3⟩ := E.rep i _ hi rfl
    rw [hρ] at e1; injection e1 with e1; subst e1
    have h1 : o = .map (m.map (entryOf ek ev)).toArray c := h1
    subst h1
    rcases hb with hb | hb
    · cases hb
    · injection hb with hb; injection hb with hb; subst hb
      exact ⟨_, rfl, hρ, ho⟩
theorem grown_mp {b : Nat} {o o' : Obj} (hb : w.heap[b]? = some o) : w.grownBy { w with heap := w.heap.setIfInBounds b o' } (some b) := by
  refine ⟨rfl, rfl, rfl, by simp, fun g hg hne => ?_⟩
  have : b ≠ g := fun e => hne (by rw [e])
  simp [this]
theorem alloc_lt (w : World) (o : Obj) : w.heap.size < (w.alloc o).heap.size := by
  have : (w.alloc o).heap = w.heap.push o := rfl
  rw [this]; simp
theorem eraseIdx_map' {α β : Type} (f : α → β) : ∀ (l : List α) (i : Nat), (l.eraseIdx i).map f = (l.map f).eraseIdx i
  | [], _ => rfl
  | _ :: _, 0 => rfl
  | x :: l, i + 1 => by simp [List.eraseIdx, eraseIdx_map' f l i]
/-- What is found in a map object. -/
theorem run_found (K : KeyT P kt ek) (m : Es κ ν) (k : κ) (w : World) :
    (findX m k = none ∧ (Instr.findKey kt (vOf (ek k)) (m.map (entryOf ek ev))).run P w = .ok none w ∧ atX m k = none) ∨ ∃ j p, findX m k = some p.2.1 ∧ (Instr.findKey kt (vOf (ek k)) (m.map (entryOf ek ev))).run P w = .ok (some (j, vOf (ev p.2.1))) w ∧ atX m k = some j ∧ m[j]? = some p ∧ p.1 = k := by
  have h1 := K.fnd k (m.map (·.1)) (m.map (entryOf ek ev)) w (by simp [List.map_map, Function.comp_def, entryOf])
  have h2 := findX_idx m k
  rw [show ((m.map (·.1)).findIdx? fun x => decide (x = k)) = atX m k from rfl] at h1
  cases hj : atX m k with
  | none => rw [hj] at h1 h2; exact .inl ⟨h2, h1, rfl⟩
  | some j =>
    rw [hj] at h1 h2
    obtain ⟨q1, q2⟩ := findIdx_lt hj
    have q1' : j < m.length := by simpa using q1
    have hkk : m[j].1 = k := by simpa using q2 m[j].1 (by simp [List.getElem?_eq_getElem q1'])
    refine .inr ⟨j, m[j], ?_, ?_, rfl, List.getElem?_eq_getElem q1', hkk⟩
    · rw [h2]; simp [List.getElem?_eq_getElem q1']
    · rw [h1]; simp [List.getElem?_eq_getElem q1', entryOf]
theorem mp_make : Does P (.makeMap t none) ty L n [] ⟨[], [], [mapO ek ev [] 0]⟩ (.mp n) := by
  intro o H F ρ w ev' ho ht En hrs hn hx
  have hn0 : H n = none := by simpa using hn 0 (by simp)
  have hrun : (execOp ev' o).run P w = .ok (.value (.map (some w.heap.size))) (w.alloc (.map #[] 0)) := by
    simp only [execOp, ho, Sem.run_bind]
    rfl
  rw [hrun]
  obtain ⟨S1, K1, E1⟩ := En.new (n := n) (o' := mapO ek ev [] 0) (h := .map (some w.heap.size)) hn0 (World.grownBy_alloc w (.map #[] 0) none) (fun b hb => by simp [blkOf] at hb; subst hb; exact ⟨Nat.le_refl _, alloc_lt _ _⟩)
    ⟨w.heap.size, .map #[] 0, .inr rfl, (MapKept.heap_alloc w _).1, rfl⟩
  exact ⟨F, _, S1, K1, E1, .mp (updF_same _ _ _)⟩
theorem run_lookup {b : Nat} {z : ν} {cm : Bool} (ht : P.underlying t = some (.map kt et)) (K : KeyT P kt ek) (hz : (zeroValue et).run P w = .ok (vOf (ev z)) w) (hb : w.heap[b]? = some (.map (m.map (entryOf ek ev)).toArray c)) (k : κ) :
    (Instr.lookup t (.map (some b)) (vOf (ek k)) cm).run P w = .ok (if cm then .tuple #[vOf (ev ((findX m k).getD z)), .bool (findX m k).isSome] else vOf (ev ((findX m k).getD z))) w := by
  have hg := MapKept.run_getObj_map (P := P) hb
  have hc := fun b => K.chk b k w
  rcases run_found (ev := ev) K m k w with ⟨h1, h2, _⟩ | ⟨j, x, h1, h2, _⟩
  · rw [h1]
    simp only [Instr.lookup, Sem.run_bind, run_underlying ht, Result.andThen_ok, hg, hc, h2, hz, Sem.run_pure]
    cases cm <;> rfl
  · rw [h1]
    simp only [Instr.lookup, Sem.run_bind, run_underlying ht, Result.andThen_ok, hg, hc, h2, Sem.run_pure]
    cases cm <;> rfl
theorem zero_run {u : Value} (hz : (P.info? et).bind (·.zero) = some u) : (zeroValue et).run P w = .ok u w := by
  obtain ⟨inf, h1, h2⟩ := Option.bind_eq_some_iff.1 hz
  simp [zeroValue, typeInfo, h1, h2]
theorem mp_look (K : KeyT P kt ek) (hv : ∀ x, closedD (ev x) = true) (z : ν) (ht : P.underlying t = some (.map kt et)) (hz : (P.info? et).bind (·.zero) = some (vOf (ev z))) (k : κ) (hi : L[i]? = some (mapO ek ev m c)) :
    Does P (.lookup t mx kx false) ty L n [.mp i, .d (ek k)] ⟨[i], [], []⟩ (.d (ev ((findX m k).getD z))) := by
  intro o H F ρ w ev' ho _ En hrs hn hx
  obtain ⟨u, q, e', hu, hq⟩ := hx.two_out
  simp [Op.operands] at e'
  have hi' : H i = some (mapO ek ev m c) := by rw [hrs i (by simp)]; exact hi
  obtain ⟨b, rfl, e1, e2⟩ := En.mapAt hi' hu
  have := FlatW.eq (.d (closed_flat (K.cl k))) hq
  subst this
  have hr := run_lookup (cm := false) ht K (zero_run hz) e2 k
  have hrun : (execOp ev' o).run P w = .ok (.value (vOf (ev ((findX m k).getD z)))) w := by simp only [execOp, ho, e'.1, e'.2, Sem.run_bind, hr, Result.andThen_ok]; rfl
  rw [hrun]
  exact Post.same En (FlatW.ra (.d (closed_flat (hv _))))
theorem mp_looks (K : KeyT P kt ek) (hv : ∀ x, closedD (ev x) = true) (z : ν) (ht : P.underlying t = some (.map kt et)) (hz : (P.info? et).bind (·.zero) = some (vOf (ev z))) (k : κ) (hi : L[i]? = some (mapO ek ev m c)) :
    Does P (.lookup t mx kx true) ty L n [.mp i, .d (ek k)] ⟨[i], [], []⟩ (.tup [.d (ev ((findX m k).getD z)), .d (.v (.bool (findX m k).isSome))]) := by
  intro o H F ρ w ev' ho _ En hrs hn hx
  obtain ⟨u, q, e', hu, hq⟩ := hx.two_out
  simp [Op.operands] at e'
  have hi' : H i = some (mapO ek ev m c) := by rw [hrs i (by simp)]; exact hi
  obtain ⟨b, rfl, e1, e2⟩ := En.mapAt hi' hu
  have := FlatW.eq (.d (closed_flat (K.cl k))) hq
  subst this
  have hr := run_lookup (cm := true) ht K (zero_run hz) e2 k
  have hrun : (execOp ev' o).run P w = .ok (.value (.tuple #[vOf (ev ((findX m k).getD z)), .bool (findX m k).isSome])) w := by simp only [execOp, ho, e'.1, e'.2, Sem.run_bind, hr, Result.andThen_ok]; rfl
  rw [hrun]
  exact Post.same En (FlatW.ra (.tup (.cons (.d (closed_flat (hv _))) (.cons (.d (.v _)) .nil))))
theorem modify_list {α : Type} (l : List α) (i : Nat) (f : α → α) : (l.toArray.modify i f) = (l.modify i f).toArray := by
  apply Array.ext'
  apply List.ext_getElem?
  intro q
  rw [Array.getElem?_toList, Array.getElem?_modify, List.getElem?_modify]
  by_cases hq : i = q <;> simp [hq]
/-- What an update makes of a map's block. -/
theorem run_put {b : Nat} (ht : P.underlying t = some (.map kt et)) (K : KeyT P kt ek) (hb : w.heap[b]? = some (.map (m.map (entryOf ek ev)).toArray c)) (k : κ) (v : ν) :
    (Instr.mapUpdate t (.map (some b)) (vOf (ek k)) (vOf (ev v))).run P w = .ok () { w with heap := w.heap.setIfInBounds b (.map ((putX k v c m).map (entryOf ek ev)).toArray (clkX k m c)) } := by
  have hg := MapKept.run_getObj_map (P := P) hb
  have hc := K.chk false k w
  rcases run_found (ev := ev) K m k w with ⟨h1, h2, h3⟩ | ⟨j, x, h1, h2, h3, h4, h5⟩
  · have e : (.map ((putX k v c m).map (entryOf ek ev)).toArray (clkX k m c) : Obj) = .map ((m.map (entryOf ek ev)).toArray.push { key := vOf (ek k), val := vOf (ev v), born := c }) (c + 1) := by
      rw [putX_idx, h3, clkX, hasX, h1]
      simp [entryOf]
    rw [e]
    simp only [Instr.mapUpdate, Sem.run_bind, run_underlying ht, Result.andThen_ok, hg, hc, h2, MapKept.run_setObj_map _ hb]
  · have e : (.map ((putX k v c m).map (entryOf ek ev)).toArray (clkX k m c) : Obj) = .map ((m.map (entryOf ek ev)).toArray.modify j fun e => { e with key := vOf (ek k), val := vOf (ev v) }) c := by
      rw [putX_idx, h3, clkX, hasX, h1, modify_list]
      simp only [Option.isSome_some, if_true]
      congr 2
      apply List.ext_getElem?
      intro q
      rw [List.getElem?_map, List.getElem?_modify, List.getElem?_modify, List.getElem?_map]
      by_cases hq : j = q
      · subst hq; rw [h4]; simp [entryOf]
      · simp [hq]
    have hks : (Instr.keyThatStays (vOf (ek k)) (vOf (ek k))).run P w = .ok (vOf (ek k)) w := by simp [Instr.keyThatStays, K.same k]
    have hkk : (((m.map (entryOf ek ev)).toArray[j]?).map (·.key)).getD (vOf (ek k)) = vOf (ek k) := by simp [h4, entryOf, h5]
    rw [e]
    simp only [Instr.mapUpdate, Sem.run_bind, run_underlying ht, Result.andThen_ok, hg, hc, h2, hkk, hks, MapKept.run_setObj_map _ hb]
theorem mp_put (K : KeyT P kt ek) (hv : ∀ x, closedD (ev x) = true) (ht : P.underlying t = some (.map kt et)) (k : κ) (v : ν) (hi : L[i]? = some (mapO ek ev m c)) :
    Does P (.mapUpdate t mx kx vx) ty L n [.mp i, .d (ek k), .d (ev v)] ⟨[i], [(i, mapO ek ev (putX k v c m) (clkX k m c))], []⟩ .any := by
  intro o H F ρ w ev' ho _ En hrs hn hx
  obtain ⟨u, q, r, e', hu, hq, hr⟩ := hx.three_out
  simp [Op.operands] at e'
  have hi' : H i = some (mapO ek ev m c) := by rw [hrs i (by simp)]; exact hi
  obtain ⟨b, rfl, e1, e2⟩ := En.mapAt hi' hu
  have := FlatW.eq (.d (closed_flat (K.cl k))) hq
  subst this
  have := FlatW.eq (.d (closed_flat (hv v))) hr
  subst this
  have g4 := run_put ht K e2 k v
  have hrun : (execOp ev' o).run P w = .ok .skip { w with heap := w.heap.setIfInBounds b (.map ((putX k v c m).map (entryOf ek ev)).toArray (clkX k m c)) } := by simp only [execOp, ho, e'.1, e'.2.1, e'.2.2, Sem.run_bind, g4, Result.andThen_ok]; rfl
  rw [hrun]
  obtain ⟨S1, E1⟩ := En.upd (o' := mapO ek ev (putX k v c m) (clkX k m c)) hi' rfl e1 (grown_mp e2) ⟨b, _, .inr rfl, (MapKept.heap_set e2).1, rfl⟩
  exact ⟨F, ρ, S1, Keep.refl _, E1, .any _⟩
theorem mp_del {kt' : TypeId} (K : KeyT P kt ek) (ht : P.underlying t = some (.map kt et)) (k : κ) (hi : L[i]? = some (mapO ek ev m c)) :
    Does P (.call { callee := .builtin .delete, args := #[mx, kx], argTypes := #[t, kt'] }) ty L n [.mp i, .d (ek k)] ⟨[i], [(i, mapO ek ev (delX k m) c)], []⟩ (.tup []) := by
  intro o H F ρ w ev' ho _ En hrs hn hx
  have hops : (Op.operands (.call { callee := .builtin .delete, args := #[mx, kx], argTypes := #[t, kt'] })).toList = [mx, kx] := by simp [Op.operands, Call.operands]
  rw [hops] at hx
  obtain ⟨u, q, e', hu, hq⟩ := hx.two_out
  simp at e'
  have hi' : H i = some (mapO ek ev m c) := by rw [hrs i (by simp)]; exact hi
  obtain ⟨b, rfl, e1, e2⟩ := En.mapAt hi' hu
  have := FlatW.eq (.d (closed_flat (K.cl k))) hq
  subst this
  have hg := MapKept.run_getObj_map (P := P) e2
  have hc := fun b => K.chk b k w
  have g4 : (Builtin.delete_ #[t, kt'] o.type #[.map (some b), vOf (ek k)]).run P w = .ok (.tuple #[]) { w with heap := w.heap.setIfInBounds b (.map ((delX k m).map (entryOf ek ev)).toArray c) } := by
    rcases run_found (ev := ev) K m k w with ⟨h1, h2, h3⟩ | ⟨j, x, h1, h2, h3, h4, h5⟩
    · rw [delX_idx, h3]
      simp [Builtin.delete_, run_underlying ht, hg, hc, h2, MapKept.run_setObj_map _ e2]
    · have hj := (List.getElem?_eq_some_iff.1 h4).1
      have e : ((delX k m).map (entryOf ek ev)).toArray = (m.map (entryOf ek ev)).toArray.eraseIdxIfInBounds j := by
        rw [delX_idx, h3]
        unfold Array.eraseIdxIfInBounds
        rw [dif_pos (by simpa using hj)]
        apply Array.ext'
        simp [eraseIdx_map']
      rw [e]
      simp [Builtin.delete_, run_underlying ht, hg, hc, h2, MapKept.run_setObj_map _ e2]
  have hrun : (execOp ev' o).run P w = .ok (.value (.tuple #[])) { w with heap := w.heap.setIfInBounds b (.map ((delX k m).map (entryOf ek ev)).toArray c) } := by simp [execOp, ho, resolve, invoke, builtin, e'.1, e'.2, g4]
  rw [hrun]
  obtain ⟨S1, E1⟩ := En.upd (o' := mapO ek ev (delX k m) c) hi' rfl e1 (grown_mp e2) ⟨b, _, .inr rfl, (MapKept.heap_set e2).1, rfl⟩
  exact ⟨F, ρ, S1, Keep.refl _, E1, .tup .nil⟩
theorem mp_len (ht : P.underlying t = some (.map kt et)) (hi : L[i]? = some (mapO ek ev m c)) :
    Does P (.call { callee := .builtin .len, args := #[mx], argTypes := #[t] }) ty L n [.mp i] ⟨[i], [], []⟩ (.d (.v (.int .i64 m.length))) := by
  intro o H F ρ w ev' ho _ En hrs hn hx
  have hops : (Op.operands (.call { callee := .builtin .len, args := #[mx], argTypes := #[t] })).toList = [mx] := by simp [Op.operands, Call.operands]
  rw [hops] at hx
  obtain ⟨u, e', hu⟩ := hx.one_out
  simp at e'
  have hi' : H i = some (mapO ek ev m c) := by rw [hrs i (by simp)]; exact hi
  obtain ⟨b, rfl, e1, e2⟩ := En.mapAt hi' hu
  have hg := MapKept.run_getObj_map (P := P) e2
  have hrun : (execOp ev' o).run P w = .ok (.value (.int .i64 m.length)) w := by simp [execOp, ho, resolve, invoke, builtin, e', Builtin.len_, run_underlying ht, hg, goInt]
  rw [hrun]
  exact Post.same En (.d (.v _))
end
/-! ### kinds of keys -/
section
variable {P : Program} {κ : Type} [DecidableEq κ] {kt : TypeId}
theorem findAsk_list {kv : Value} {f : κ → Value} {k : κ} {w : World} (hs : ∀ x, (Op.equal kt kv (f x)).run P w = .ok (decide (x = k)) w) : ∀ (ks : List κ) (es : List MapEntry) (i : Nat), es.map (·.key) = ks.map f → (Instr.findAsking kt kv es i).run P w = .ok ((ks.findIdx? fun x => decide (x = k)).bind fun j => (es[j]?).map fun e => (i + j, e.val)) w
  | [], es, i, h => by
    have : es = [] := by simpa using h
    subst this; simp [Instr.findAsking]
  | x :: ks, [], i, h => by simp at h
  | x :: ks, e :: es, i, h => by
    simp only [List.map_cons, List.cons.injEq] at h
    rw [Instr.findAsking, h.1]
    simp only [Sem.run_bind, hs x, Result.andThen_ok, List.findIdx?_cons]
    by_cases hk : x = k
    · simp [hk]
    · simp only [hk, decide_false, Bool.false_eq_true, if_false]
      rw [findAsk_list hs ks es (i + 1) h.2]
      cases ks.findIdx? fun x => decide (x = k) with
      | none => rfl
      | some j => simp; congr 1; funext e; congr 1; omega
theorem check_flat {em : Bool} {n : Nat} {us : Array Value} {w : World} : ∀ {fs : List Field} {o : Nat} {ks : List Nat} {xs : List D}, flatGo P fs o ks = true → eqL ks xs xs ≠ none → (∀ j, j < xs.length → us[o + j]? = some (unD (xs.getD j (.v undef)))) →
    (forIn (m := Sem) fs PUnit.unit fun f _ => do
        if f.name ≠ "_" then Instr.checkKey em (n + 1) f.type (← part f.type us f.offset)
        pure (ForInStep.yield PUnit.unit)).run P w = .ok PUnit.unit w
  | [], _, _, _, _, _, _ => by simp
  | f :: fs, o, [], _, hg, _, _ => by simp [flatGo] at hg
  | f :: fs, o, k :: ks, xs, hg, h, hu => by
    obtain ⟨b, hb⟩ := Option.ne_none_iff_exists'.1 h
    obtain ⟨x, xs, y, ys, a, c, rfl, e2, ha, hc, _⟩ := eqL_cons hb
    injection e2 with e2 e3
    subst e2 e3
    simp only [flatGo, Bool.and_eq_true, bne_iff_ne, Nat.blt_eq] at hg
    obtain ⟨⟨⟨⟨h1, h2⟩, h3⟩, h4⟩, h5⟩ := hg
    have h2 := Nat.eq_of_beq_eq_true h2
    have h3 := Nat.eq_of_beq_eq_true h3
    have p1 := part_tag (w := w) h3 h4 (hu 0 (by simp))
    rw [Nat.add_zero, ← h2] at p1
    have p2 : (Instr.checkKey em (n + 1) f.type (unD ((x :: xs).getD 0 (.v undef)))).run P w = .ok () w := by
      have e1 : (x :: xs).getD 0 (.v undef) = x := rfl
      rw [e1]
      rcases eqV_out ha with ⟨rfl, q, a, c, rfl, _⟩ | ⟨rfl, a, c, rfl, _⟩ | ⟨rfl, a, c, rfl, _⟩
      · obtain ⟨k, hk⟩ := tagT_one h3
        simp [unD, Instr.checkKey, run_underlying hk]
      · simp [unD, Instr.checkKey, run_underlying (tagT_two h3)]
      · simp [unD, Instr.checkKey, run_underlying (tagT_three h3)]
    have ih := check_flat (em := em) (n := n) (us := us) (w := w) h5 (by rw [hc]; simp) (fun j hj => by have := hu (j + 1) (by simpa using hj); rw [show o + 1 + j = o + (j + 1) by omega, this]; rfl)
    simp only [List.forIn_cons, Sem.run_bind, h1, ne_eq, not_false_eq_true, if_true, Result.andThen_ok, p1, p2, Sem.run_pure]
    exact ih
theorem closed_unD {ks : List Nat} {xs : List D} (h : eqL ks xs xs ≠ none) : closedC xs = true ∧ xs = xs.map (fun x => .v (unD x)) ∧ Instr.sameBits 10000 (.agg (xs.map unD).toArray) (.agg (xs.map unD).toArray) = true := by
  obtain ⟨b, hb⟩ := Option.ne_none_iff_exists'.1 h
  have key : ∀ {ks : List Nat} {xs : List D} {b : Bool}, eqL ks xs xs = some b → closedC xs = true ∧ ((xs.map unD).zip (xs.map unD)).all (fun (x, y) => Instr.sameBits 9999 x y) = true := by
    intro ks
    induction ks with
    | nil => intro xs b h; obtain ⟨rfl, _, _⟩ := eqL_nil h; exact ⟨rfl, rfl⟩
    | cons k ks ih =>
      intro xs b h
      obtain ⟨x, xs, y, ys, a, c, rfl, e2, ha, hc, _⟩ := eqL_cons h
      injection e2 with e2 e3
      subst e2 e3
      obtain ⟨q1, q2⟩ := ih hc
      rcases eqV_out ha with ⟨rfl, q, a, c, rfl, _⟩ | ⟨rfl, a, c, rfl, _⟩ | ⟨rfl, a, c, rfl, _⟩
      · exact ⟨by simpa [closedC, Value.oneCell'] using q1, by simpa [unD, Instr.sameBits] using q2⟩
      · exact ⟨by simpa [closedC, Value.oneCell'] using q1, by simpa [unD, Instr.sameBits] using q2⟩
      · exact ⟨by simpa [closedC, Value.oneCell'] using q1, by simpa [unD, Instr.sameBits, MapKept.bytes_beq] using q2⟩
  obtain ⟨h1, h2⟩ := key hb
  exact ⟨h1, (eqL_unD hb).1, by simpa [Instr.sameBits] using h2⟩
/-- Structs of numbers, truth values and strings. -/
theorem key_flat (ks : List Nat) {f : κ → List D} (ht : flatB P kt ks = true) (h : ∀ a b, eqL ks (f a) (f b) = some (decide (b = a))) : KeyT P kt (fun k => .agg (f k)) where
  cl k := (closed_unD (by rw [h k k]; simp)).1
  chk b k w := by
    have ht' := ht
    unfold flatB at ht
    split at ht
    · rename_i fs hfs
      simp only [Bool.and_eq_true, Bool.not_eq_true'] at ht
      have := check_flat (em := b) (n := 9998) (us := ((f k).map unD).toArray) (w := w) ht.2 (xs := f k) (by rw [h k k]; simp) (fun j hj => by simp [hj, List.getD])
      rw [show vOf (.agg (f k)) = .agg ((f k).map unD).toArray from rfl, Instr.checkKey]
      simp only [Sem.run_bind, run_underlying hfs, Result.andThen_ok]
      rw [← Array.forIn_toList]
      simp at this ⊢
      rw [this]
      rfl
    · cases ht
  fnd k ks' es w he := by
    have hw : (Instr.findKey kt (vOf (.agg (f k))) es).run P w = (Instr.findAsking kt (vOf (.agg (f k))) es).run P w := by
      refine run_findKey_eq w ?_ _ _
      unfold flatB at ht
      split at ht
      · rename_i hfs; rw [hfs]
      · cases ht
    rw [hw]
    have := findAsk_list (P := P) (kt := kt) (kv := vOf (.agg (f k))) (f := fun k => vOf (.agg (f k))) (k := k) (w := w) (fun x => by
      have q : ∀ k, RA w (fun _ => False) (fun _ => none) (.d (.agg (f k))) (vOf (.agg (f k))) := fun k => FlatW.ra (.d (closed_flat (closed_unD (by rw [h k k]; simp)).1))
      obtain ⟨us, vs, e1, e2, _, hr⟩ := run_flat (P := P) (w := w) ht (h k x) (q k) (q x)
      exact hr) ks' es 0 he
    simpa using this
  same k := (closed_unD (by rw [h k k]; simp)).2.2
end
end Go.Proofs.YtbjmdnemeidpjaaGreat
/- Ranges over maps of the call's own that nothing is put into meanwhile. No program is named here. -/
namespace Go.Proofs.YtbjmdnemeidpjaaGreat
set_option linter.unusedSimpArgs false
set_option linter.unusedVariables false
open Go.RowKit
set_option linter.unusedSectionVars false
section
variable {P : Program} {w w' : World} {F F' : Nat → Prop} {ρ ρ' : Nat → Option Value} {H : Hp} {L : List AObj} {ty n : Nat} {κ ν : Type} [DecidableEq κ] {ek : κ → D} {ev : ν → D} {m : Es κ ν} {c : Nat} {t kt et : TypeId} {i j : Nat} {k : κ} {v : ν} {mx kx vx : Operand}
/-! ### ranges -/
/-- An iterator over the map i: entries laid before 'since' were there, those born at 'seen' have come, 'last' is the clock of the last step. -/
def itP (since : Nat) (seen : List Nat) (last : Nat) (u : Value) (o : Obj) : Prop := ∃ g, u = .map (some g) ∧ o = .mapIter (some g) since seen.toArray last
abbrev itO (i since : Nat) (seen : List Nat) (last : Nat) : AObj := .iter (.mp i) (itP since seen last)
/-- The next step of a range over a map that nothing is put into: an entry that has not come, or the end. -/
def nextR (m : Es κ ν) (seen : List Nat) : Option (κ × ν × Nat) → Prop
  | none => ∀ p ∈ m, p.2.2 ∈ seen
  | some p => p ∈ m ∧ p.2.2 ∉ seen
/-- The next step of a range over a map that nothing is put into, as a run. -/
theorem run_next_mp {g b since : Nat} {seen : List Nat} {last : Nat} (q2 : w.heap[g]? = some (.mapIter (some b) since seen.toArray last)) (q4 : w.heap[b]? = some (.map (m.map (entryOf ek ev)).toArray c)) (h1 : ∀ p ∈ m, p.2.2 < since) (h2 : seen = [] ∨ ∀ p ∈ m, p.2.2 < last) :
    ∃ y w1, nextR m seen y ∧ (w1 = w ∨ w1 = w.drew) ∧ (Instr.next (.pointer (some ⟨g, 0, none⟩)) false ty).run P w = (match y with
      | none => .ok (.tuple #[.bool false]) w1
      | some p => .ok (.tuple #[.bool true, vOf (ek p.1), vOf (ev p.2.1)]) { w1 with heap := w1.heap.setIfInBounds g (.mapIter (some b) since (seen ++ [p.2.2]).toArray c) }) := by
  have hg1 : (getObj g).run P w = .ok (.mapIter (some b) since seen.toArray last) w := by simp [getObj, Sem.run, q2]
  have hg2 := MapKept.run_getObj_map (P := P) q4
  have hguard : (!seen.toArray.isEmpty && !(m.map (entryOf ek ev)).toArray.isEmpty && (m.map (entryOf ek ev)).toArray.all (·.born ≥ last)) = false := by
    rcases h2 with rfl | h2
    · simp
    · cases m with
      | nil => simp
      | cons p r =>
        have := h2 p (List.mem_cons_self ..)
        simp [entryOf]
        intro _ h; omega
  have hleft : ((m.map (entryOf ek ev)).toArray.filter fun e => !seen.toArray.contains e.born) = ((m.filter fun p => !seen.contains p.2.2).map (entryOf ek ev)).toArray := by
    apply Array.ext'
    simp only [List.filter_toArray, List.filter_map, Function.comp_def, entryOf, List.contains_toArray]
  generalize hml : (m.filter fun p => !seen.contains p.2.2) = ml at hleft
  have hmem : ∀ p, p ∈ ml ↔ p ∈ m ∧ p.2.2 ∉ seen := fun p => by rw [← hml]; simp
  have hold : ((ml.map (entryOf ek ev)).toArray.filter (·.born < since)) = (ml.map (entryOf ek ev)).toArray := by
    apply Array.ext'
    simp only [List.filter_toArray]
    rw [List.filter_eq_self]
    intro a ha
    obtain ⟨p, hp, rfl⟩ := List.mem_map.1 ha
    exact decide_eq_true (h1 p ((hmem p).1 hp).1)
  have hnew : ((ml.map (entryOf ek ev)).toArray.filter (·.born ≥ since)) = #[] := by
    apply Array.ext'
    simp only [List.filter_toArray]
    rw [List.filter_eq_nil_iff]
    intro a ha
    obtain ⟨p, hp, rfl⟩ := List.mem_map.1 ha
    have := h1 p ((hmem p).1 hp).1
    simpa [entryOf] using this
  have hrun : ∃ q w2, ((ml = [] ∧ q = some none) ∨ ∃ p ∈ ml, q = some (some (entryOf ek ev p))) ∧ (w2 = w ∨ w2 = w.drew) ∧ (Instr.next (.pointer (some ⟨g, 0, none⟩)) false ty).run P w = ((match q with
        | some (some e) => do
          setObj g (.mapIter (some b) since (seen.toArray.push e.born) c)
          pure (.tuple #[.bool true, e.key, e.val])
        | some none => pure (.tuple #[.bool false])
        | none => stuck "Next: no such candidate" : Sem Value)).run P w2 := by
    have hcand : ∀ x, ((if (ml.map (entryOf ek ev)).toArray.isEmpty then #[none] else #[]) ++ ((ml.map (entryOf ek ev)).toArray ++ #[]).map some : Array (Option MapEntry))[x]? = if ml = [] then (if x = 0 then some none else none) else (ml[x]?).map fun p => some (entryOf ek ev p) := by
      intro x
      by_cases h : ml = []
      · subst h
        cases x <;> simp
      · have : (ml.map (entryOf ek ev)).toArray.isEmpty = false := by simp [h]
        rw [this]
        simp [h]
        cases ml[x]? <;> rfl
    have hsize : ((if (ml.map (entryOf ek ev)).toArray.isEmpty then #[none] else #[]) ++ ((ml.map (entryOf ek ev)).toArray ++ #[]).map some : Array (Option MapEntry)).size = if ml = [] then 1 else ml.length := by
      by_cases h : ml = []
      · subst h; simp
      · have : (ml.map (entryOf ek ev)).toArray.isEmpty = false := by simp [h]
        rw [this]
        simp [h]
    have key : ∃ x w2, x < (if ml = [] then 1 else ml.length) ∧ (w2 = w ∨ w2 = w.drew) ∧ (choose (.mapNext (if ml = [] then 1 else ml.length))).run P w = .ok x w2 := by
      have hpos : 0 < (if ml = [] then 1 else ml.length) := by
        split
        · omega
        · rename_i h; exact List.length_pos_iff.2 h
      by_cases hf : (Question.mapNext (if ml = [] then 1 else ml.length)).forced = true
      · exact ⟨0, w, hpos, .inl rfl, by simp only [choose, Sem.run, hf, if_true]⟩
      · refine ⟨(Question.mapNext (if ml = [] then 1 else ml.length)).cut (w.tape w.drawn (.mapNext (if ml = [] then 1 else ml.length))), w.drew, Nat.mod_lt _ hpos, .inr rfl, ?_⟩
        simp only [choose, Sem.run, hf]
        rfl
    obtain ⟨x, w2, hx1, hx2, hx3⟩ := key
    refine ⟨((if (ml.map (entryOf ek ev)).toArray.isEmpty then #[none] else #[]) ++ ((ml.map (entryOf ek ev)).toArray ++ #[]).map some : Array (Option MapEntry))[x]?, w2, ?_, hx2, ?_⟩
    rotate_left
    · simp only [Instr.next, Sem.run_bind, hg1, hg2, Result.andThen_ok, hguard, Bool.false_eq_true, if_false, hleft, hold, hnew, hsize, hx3]
      rfl
    · rw [hcand]
      by_cases h : ml = []
      · rw [if_pos h] at hx1 ⊢
        exact .inl ⟨h, by simp; omega⟩
      · rw [if_neg h] at hx1 ⊢
        exact .inr ⟨ml[x], List.getElem_mem _, by simp [List.getElem?_eq_getElem hx1]⟩
  obtain ⟨q, w2, h3, h4, h5⟩ := hrun
  have q2' : w2.heap[g]? = some (.mapIter (some b) since seen.toArray last) := by rcases h4 with rfl | rfl <;> exact q2
  rcases h3 with ⟨hq, rfl⟩ | ⟨p, hp', rfl⟩
  · refine ⟨none, w2, fun p hp => Classical.byContradiction fun hn => ?_, h4, ?_⟩
    · have h6 := (hmem p).2 ⟨hp, hn⟩
      rw [hq] at h6
      simp at h6
    · rw [h5]; rfl
  · refine ⟨some p, w2, (hmem p).1 hp', h4, ?_⟩
    have hset : (setObj g (.mapIter (some b) since (seen.toArray.push (entryOf ek ev p).born) c)).run P w2 = .ok () { w2 with heap := w2.heap.setIfInBounds g (.mapIter (some b) since (seen.toArray.push (entryOf ek ev p).born) c) } := by simp [setObj, Sem.run, q2']
    have hpush : seen.toArray.push (entryOf ek ev p).born = (seen ++ [p.2.2]).toArray := by simp [entryOf]
    rw [h5]
    simp only [Sem.run_bind, hset, Sem.run_pure, Result.andThen_ok]
    rw [hpush]
    rfl
end
end Go.Proofs.YtbjmdnemeidpjaaGreat
