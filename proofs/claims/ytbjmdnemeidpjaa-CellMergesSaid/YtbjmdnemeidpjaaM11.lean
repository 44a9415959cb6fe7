/- Parts CeF, CeG, CeH, EqS, CeI, CeQ, CeJ of the proof, put together. -/
import Derived.Test.YtbjmdnemeidpjaaM10
import Derived.DeepKeys
/- Right of a cell. -/
namespace Go.Proofs.Ytbjmdnemeidpjaa
set_option linter.unusedSimpArgs false
set_option linter.unusedVariables false
open Go.RowKit
set_option maxRecDepth 100000
theorem right_no {c : Cel} (h : ¬ (0 ≤ c.n ∧ 0 ≤ c.ce ∧ 0 ≤ c.po ∧ c.mn ≤ c.mx)) : rightC c = false := by
  unfold rightC
  rw [decide_eq_false h]
  rfl
theorem right_no2 {c : Cel} (h : okH c.h = false) : rightC c = false := by
  unfold rightC
  rw [h, Bool.and_false]
  rfl
theorem right_no3 {c : Cel} (h : ¬ c.h.sum = c.n) : rightC c = false := by
  unfold rightC
  rw [decide_eq_false h, Bool.and_false]
  rfl
theorem right_zero {c : Cel} (h : 0 ≤ c.n ∧ 0 ≤ c.ce ∧ 0 ≤ c.po ∧ c.mn ≤ c.mx) (h2 : okH c.h = true) (h3 : c.h.sum = c.n) (h4 : c.n = 0) : rightC c = decide (c.s = 0 ∧ c.mn = 0 ∧ c.mx = 0) := by
  unfold rightC
  rw [decide_eq_true h, h2, decide_eq_true h3, if_pos h4]
  rfl
theorem right_some {c : Cel} (h : 0 ≤ c.n ∧ 0 ≤ c.ce ∧ 0 ≤ c.po ∧ c.mn ≤ c.mx) (h2 : okH c.h = true) (h3 : c.h.sum = c.n) (h4 : ¬ c.n = 0) : rightC c = (decide (hAt c.h (bkt c.mn) ≠ 0 ∧ hAt c.h (bkt c.mx) ≠ 0) && inB c) := by
  unfold rightC
  rw [decide_eq_true h, h2, decide_eq_true h3, if_neg h4]
  rfl
theorem at_h {c : Cel} (hl : c.h.length = 65) {k : Nat} (hk : k < 65) : List.drop (0 + 7 + k * 1) (cR c) = iD (hAt c.h k) :: (hR c.h).drop (k + 1) := by
  have e : List.drop (0 + 7 + k * 1) (cR c) = (hR c.h).drop (0 + k * 1) := by
    rw [show 0 + 7 + k * 1 = k + 7 by omega, show 0 + k * 1 = k by omega]; rfl
  rw [e]
  refine drop_row ?_
  unfold hAt
  rw [List.getElem?_eq_getElem (by omega)]
  rfl
theorem wof_sat (v : Int) (h : in64 v) : Sat Try.prog 27 [iA v] [] (.d (wD v)) [] :=
  .of_calls (.cons (.d (.v _)) .nil) (.d (wD_flat _)) fun w => wideOf_any v w h.1 h.2
theorem wd_beq (a b : Int) : (hiZ a == hiZ b && loZ a == loZ b) = decide (a = b) := by
  rw [Bool.eq_iff_iff]
  simp only [Bool.and_eq_true, beq_iff_eq, decide_eq_true_eq]
  unfold hiZ loZ word
  omega
theorem no_way {a b : Int} (h : a = b) (q : (!(hiZ a == hiZ b && loZ a == loZ b)) = true) : False := by rw [wd_beq, decide_eq_true h] at q; exact Bool.noConfusion q
theorem no_way2 {a b : Int} (h : ¬ a = b) (q : (!(hiZ a == hiZ b && loZ a == loZ b)) = false) : False := by rw [wd_beq, decide_eq_false h] at q; exact Bool.noConfusion q
theorem zz1 {c : Cel} (h : (hiZ c.s == 0 && loZ c.s == 0) = true) (h2 : (c.mn == 0) = true) : decide (c.s = 0 ∧ c.mn = 0 ∧ c.mx = 0) = (c.mx == 0) := by
  have e := wd_beq c.s 0
  have e : (hiZ c.s == 0 && loZ c.s == 0) = decide (c.s = 0) := e
  rw [e] at h
  rw [Bool.eq_iff_iff]
  simp only [decide_eq_true_eq, beq_iff_eq] at *
  omega
theorem zz2 {c : Cel} (h2 : (c.mn == 0) = false) : decide (c.s = 0 ∧ c.mn = 0 ∧ c.mx = 0) = false := by
  simp only [beq_eq_false_iff_ne, ne_eq] at h2
  exact decide_eq_false (by omega)
theorem zz3 {c : Cel} (h : (hiZ c.s == 0 && loZ c.s == 0) = false) : decide (c.s = 0 ∧ c.mn = 0 ∧ c.mx = 0) = false := by
  have e : (hiZ c.s == 0 && loZ c.s == 0) = decide (c.s = 0) := wd_beq c.s 0
  rw [e] at h
  have := of_decide_eq_false h
  exact decide_eq_false (by omega)
theorem rr1 {c : Cel} (h : (hAt c.h (bkt c.mn) == 0) = true) : (decide (hAt c.h (bkt c.mn) ≠ 0 ∧ hAt c.h (bkt c.mx) ≠ 0) && inB c) = false := by
  have h := eq_of_beq h
  rw [decide_eq_false (fun q => q.1 h)]; rfl
theorem rr2 {c : Cel} (h : (hAt c.h (bkt c.mx) == 0) = true) : (decide (hAt c.h (bkt c.mn) ≠ 0 ∧ hAt c.h (bkt c.mx) ≠ 0) && inB c) = false := by
  have h := eq_of_beq h
  rw [decide_eq_false (fun q => q.2 h)]; rfl
theorem rr3 {c : Cel} (h : (hAt c.h (bkt c.mn) == 0) = false) (h2 : (hAt c.h (bkt c.mx) == 0) = false) : (decide (hAt c.h (bkt c.mn) ≠ 0 ∧ hAt c.h (bkt c.mx) ≠ 0) && inB c) = inB c := by
  rw [decide_eq_true ⟨by simpa using h, by simpa using h2⟩]; rfl
theorem inB_no {c : Cel} {b : Nat} (hb : b < 65) (h : hAt c.h b ≠ 0) (h2 : b < bkt c.mn ∨ bkt c.mx < b) : inB c = false := by
  rw [← Bool.not_eq_true]
  intro q
  have := of_decide_eq_true (List.all_eq_true.1 q b (List.mem_range.2 hb))
  omega
theorem inB_yes {c : Cel} (h : ∀ b, b < 65 → hAt c.h b ≠ 0 → bkt c.mn ≤ b ∧ b ≤ bkt c.mx) : inB c = true := by
  refine List.all_eq_true.2 fun b hb => decide_eq_true ?_
  by_cases q : hAt c.h b = 0
  · exact .inl q
  · exact .inr (h b (List.mem_range.1 hb) q)
theorem l27 : (tiOf Try.prog 27).len = 65 := by kernel_rfl
set_option maxHeartbeats 4000000 in
theorem right_sat_c (c : Cel) (hc : CelOK c) : Sat Try.prog 13 [.d (cD c)] [] (bA (rightC c)) [] := by
  have hl := hc.hl
  have hx := hc.hx
  have t1 := total_sat c.h hl hx
  have b1 := bucket_sat c.mn hc.mn
  have b2 := bucket_sat c.mx hc.mx
  have f1 := full_sat c.h
  have w1 := wof_sat c.n hc.n
  have k1 := bkt_lt c.mn hc.mn.2
  have k2 := bkt_lt c.mx hc.mx.2
  refine sat_of_vc (T := tiOf Try.prog) (E := E0) Try.func13 rfl rfl hE0 hm0 rfl ?_
  conv => whnf
  by_cases h0 : 0 ≤ c.n ∧ 0 ≤ c.ce ∧ 0 ≤ c.po ∧ c.mn ≤ c.mx
  case neg =>
    rw [right_no h0]
    iterate 2
      repeat (any_goals (first
        | exact True.intro
        | (refine ⟨_, drop_id, ?_⟩; conv => whnf)
        | (refine ⟨_, _, at_n, ?_⟩; conv => whnf)
        | (refine ⟨_, _, at_hi, ?_⟩; conv => whnf)
        | (refine ⟨_, _, at_lo, ?_⟩; conv => whnf)
        | (refine ⟨_, _, at_mn, ?_⟩; conv => whnf)
        | (refine ⟨_, _, at_mx, ?_⟩; conv => whnf)
        | (refine ⟨_, _, at_ce, ?_⟩; conv => whnf)
        | (refine ⟨_, _, at_po, ?_⟩; conv => whnf)
        | (refine ⟨_, whole_z sC, clenz sC, ?_⟩; conv => whnf)
        | (refine ⟨_, setzC, ?_⟩; conv => whnf)
        | (refine And.intro (clenz sC) ?_; conv => whnf)
        | (refine And.intro fitzC ?_; conv => whnf)
        | (refine ⟨_, whole_cell sC hl, clen sC hl, ?_⟩; conv => whnf)
        | (refine And.intro (clen sC hl) ?_; conv => whnf)
        | (refine And.intro (fitC hl) ?_; conv => whnf)
        | (refine ⟨_, setC hl, ?_⟩; conv => whnf)
        | (refine ⟨_, whole_z sF, clenz sF, ?_⟩; conv => whnf)
        | (refine ⟨_, setzF, ?_⟩; conv => whnf)
        | (refine And.intro (clenz sF) ?_; conv => whnf)
        | (refine And.intro fitzF ?_; conv => whnf)
        | (refine ⟨_, whole_cell sF hl, clen sF hl, ?_⟩; conv => whnf)
        | (refine And.intro (clen sF hl) ?_; conv => whnf)
        | (refine And.intro (fitF hl) ?_; conv => whnf)
        | (refine ⟨_, setF hl, ?_⟩; conv => whnf)
        | (refine And.intro (fit1 hl (by decide)) ?_; conv => whnf)
        | (refine And.intro (fit1 rfl (by decide)) ?_; conv => whnf)
        | (refine ⟨_, sum_cell s25, rfl, ?_⟩; conv => whnf)
        | (refine ⟨_, set_n _, ?_⟩; conv => whnf)
        | (refine ⟨_, set_mn _, ?_⟩; conv => whnf)
        | (refine ⟨_, set_mx _, ?_⟩; conv => whnf)
        | (refine ⟨_, set_ce _, ?_⟩; conv => whnf)
        | (refine ⟨_, set_po _, ?_⟩; conv => whnf)
        | (refine ⟨_, set_s _, ?_⟩; conv => whnf)
        | (refine ⟨_, set_hi _, ?_⟩; conv => whnf)
        | (refine ⟨_, set_lo _, ?_⟩; conv => whnf)
        | (refine And.intro (fun _ => ?_) tf; conv => whnf)
        | (refine And.intro ft (fun _ => ?_); conv => whnf)
        | (refine And.intro (by kernel_rfl) ?_; conv => whnf)
        | (refine And.intro (by decide) ?_; conv => whnf)
        | (refine And.intro (fun _ => ?_) (fun h => absurd h (by decide)); conv => whnf)
        | (refine And.intro (fun h => absurd h (by decide)) (fun _ => ?_); conv => whnf)
        | (refine And.intro (fun _ => ?_) (fun _ => ?_) <;> conv => whnf)
        | (refine ⟨_, _, t1.pu rfl rfl, ?_⟩; conv => whnf)
        | (refine ⟨_, _, b1.pu rfl rfl, ?_⟩; conv => whnf)
        | (refine ⟨_, _, b2.pu rfl rfl, ?_⟩; conv => whnf)))
      all_goals try (exfalso; simp only [decide_eq_true_eq, decide_eq_false_iff_not, Bool.not_eq_true', Bool.not_eq_false', Bool.not_eq_true, Bool.not_eq_false, beq_iff_eq, bne_iff_ne, beq_eq_false_iff_ne, bne_eq_false_iff_eq, ne_eq, Decidable.not_not] at *; first | omega | contradiction | (simp_all; done) | (simp_all; omega))
      all_goals try (refine Or.inl ?_; conv => whnf)
    all_goals try (exfalso; simp only [decide_eq_true_eq, decide_eq_false_iff_not] at *; omega)
    all_goals refine ⟨[], ?_⟩
    repeat (any_goals (first | exact True.intro | exact rfl | with_reducible_and_instances rfl | exact (by kernel_rfl) | refine And.intro ?_ ?_))
    all_goals conv => whnf
  iterate 2
    repeat (any_goals (first
      | exact True.intro
      | (refine ⟨_, drop_id, ?_⟩; conv => whnf)
      | (refine ⟨_, _, at_n, ?_⟩; conv => whnf)
      | (refine ⟨_, _, at_hi, ?_⟩; conv => whnf)
      | (refine ⟨_, _, at_lo, ?_⟩; conv => whnf)
      | (refine ⟨_, _, at_mn, ?_⟩; conv => whnf)
      | (refine ⟨_, _, at_mx, ?_⟩; conv => whnf)
      | (refine ⟨_, _, at_ce, ?_⟩; conv => whnf)
      | (refine ⟨_, _, at_po, ?_⟩; conv => whnf)
      | (refine ⟨_, whole_z sC, clenz sC, ?_⟩; conv => whnf)
      | (refine ⟨_, setzC, ?_⟩; conv => whnf)
      | (refine And.intro (clenz sC) ?_; conv => whnf)
      | (refine And.intro fitzC ?_; conv => whnf)
      | (refine ⟨_, whole_cell sC hl, clen sC hl, ?_⟩; conv => whnf)
      | (refine And.intro (clen sC hl) ?_; conv => whnf)
      | (refine And.intro (fitC hl) ?_; conv => whnf)
      | (refine ⟨_, setC hl, ?_⟩; conv => whnf)
      | (refine ⟨_, whole_z sF, clenz sF, ?_⟩; conv => whnf)
      | (refine ⟨_, setzF, ?_⟩; conv => whnf)
      | (refine And.intro (clenz sF) ?_; conv => whnf)
      | (refine And.intro fitzF ?_; conv => whnf)
      | (refine ⟨_, whole_cell sF hl, clen sF hl, ?_⟩; conv => whnf)
      | (refine And.intro (clen sF hl) ?_; conv => whnf)
      | (refine And.intro (fitF hl) ?_; conv => whnf)
      | (refine ⟨_, setF hl, ?_⟩; conv => whnf)
      | (refine And.intro (fit1 hl (by decide)) ?_; conv => whnf)
      | (refine And.intro (fit1 rfl (by decide)) ?_; conv => whnf)
      | (refine ⟨_, sum_cell s25, rfl, ?_⟩; conv => whnf)
      | (refine ⟨_, set_n _, ?_⟩; conv => whnf)
      | (refine ⟨_, set_mn _, ?_⟩; conv => whnf)
      | (refine ⟨_, set_mx _, ?_⟩; conv => whnf)
      | (refine ⟨_, set_ce _, ?_⟩; conv => whnf)
      | (refine ⟨_, set_po _, ?_⟩; conv => whnf)
      | (refine ⟨_, set_s _, ?_⟩; conv => whnf)
      | (refine ⟨_, set_hi _, ?_⟩; conv => whnf)
      | (refine ⟨_, set_lo _, ?_⟩; conv => whnf)
      | (refine And.intro (fun _ => ?_) tf; conv => whnf)
      | (refine And.intro ft (fun _ => ?_); conv => whnf)
      | (refine And.intro (by kernel_rfl) ?_; conv => whnf)
      | (refine And.intro (by decide) ?_; conv => whnf)
      | (refine And.intro (fun _ => ?_) (fun h => absurd h (by decide)); conv => whnf)
      | (refine And.intro (fun h => absurd h (by decide)) (fun _ => ?_); conv => whnf)
      | (refine And.intro (fun _ => ?_) (fun _ => ?_) <;> conv => whnf)))
    all_goals try (exfalso; simp only [decide_eq_true_eq, decide_eq_false_iff_not, Bool.not_eq_true', Bool.not_eq_false', Bool.not_eq_true, Bool.not_eq_false, beq_iff_eq, bne_iff_ne, beq_eq_false_iff_ne, bne_eq_false_iff_eq, ne_eq, Decidable.not_not] at *; first | omega | contradiction | (simp_all; done) | (simp_all; omega))
    all_goals try (refine Or.inl ?_; conv => whnf)
  all_goals try (exfalso; simp only [decide_eq_true_eq, decide_eq_false_iff_not] at *; omega)
  repeat (any_goals (first
    | exact True.intro
    | (refine ⟨_, drop_id, ?_⟩; conv => whnf)
    | (refine ⟨_, _, at_n, ?_⟩; conv => whnf)
    | (refine ⟨_, _, at_hi, ?_⟩; conv => whnf)
    | (refine ⟨_, _, at_lo, ?_⟩; conv => whnf)
    | (refine ⟨_, _, at_mn, ?_⟩; conv => whnf)
    | (refine ⟨_, _, at_mx, ?_⟩; conv => whnf)
    | (refine ⟨_, _, at_ce, ?_⟩; conv => whnf)
    | (refine ⟨_, _, at_po, ?_⟩; conv => whnf)
    | (refine ⟨_, whole_z sC, clenz sC, ?_⟩; conv => whnf)
    | (refine ⟨_, setzC, ?_⟩; conv => whnf)
    | (refine And.intro (clenz sC) ?_; conv => whnf)
    | (refine And.intro fitzC ?_; conv => whnf)
    | (refine ⟨_, whole_cell sC hl, clen sC hl, ?_⟩; conv => whnf)
    | (refine And.intro (clen sC hl) ?_; conv => whnf)
    | (refine And.intro (fitC hl) ?_; conv => whnf)
    | (refine ⟨_, setC hl, ?_⟩; conv => whnf)
    | (refine ⟨_, whole_z sF, clenz sF, ?_⟩; conv => whnf)
    | (refine ⟨_, setzF, ?_⟩; conv => whnf)
    | (refine And.intro (clenz sF) ?_; conv => whnf)
    | (refine And.intro fitzF ?_; conv => whnf)
    | (refine ⟨_, whole_cell sF hl, clen sF hl, ?_⟩; conv => whnf)
    | (refine And.intro (clen sF hl) ?_; conv => whnf)
    | (refine And.intro (fitF hl) ?_; conv => whnf)
    | (refine ⟨_, setF hl, ?_⟩; conv => whnf)
    | (refine And.intro (fit1 hl (by decide)) ?_; conv => whnf)
    | (refine And.intro (fit1 rfl (by decide)) ?_; conv => whnf)
    | (refine ⟨_, sum_cell s25, rfl, ?_⟩; conv => whnf)
    | (refine ⟨_, set_n _, ?_⟩; conv => whnf)
    | (refine ⟨_, set_mn _, ?_⟩; conv => whnf)
    | (refine ⟨_, set_mx _, ?_⟩; conv => whnf)
    | (refine ⟨_, set_ce _, ?_⟩; conv => whnf)
    | (refine ⟨_, set_po _, ?_⟩; conv => whnf)
    | (refine ⟨_, set_s _, ?_⟩; conv => whnf)
    | (refine ⟨_, set_hi _, ?_⟩; conv => whnf)
    | (refine ⟨_, set_lo _, ?_⟩; conv => whnf)
    | (refine ⟨_, hist_cell s69 hl, whole_len s69 hl, ?_⟩; conv => whnf)
    | (refine And.intro (fun _ => ?_) tf; conv => whnf)
    | (refine And.intro ft (fun _ => ?_); conv => whnf)
    | (refine And.intro (by kernel_rfl) ?_; conv => whnf)
    | (refine And.intro (by decide) ?_; conv => whnf)
    | (refine And.intro (fun _ => ?_) (fun h => absurd h (by decide)); conv => whnf)
    | (refine And.intro (fun h => absurd h (by decide)) (fun _ => ?_); conv => whnf)
    | (refine And.intro (fun _ => ?_) (fun _ => ?_) <;> conv => whnf)))
  refine ⟨Nat, fun k => k ≤ 65 ∧ okH (c.h.take k) = true, fun k => ([(30, iA k), (29, .d (hD c.h)), (2, .ptr 1 0), (1, .ptr 0 0)], [.row (cR c), .cells [bA false]]), fun k => 65 - k, ⟨0, ⟨by omega, rfl⟩, ?_⟩, ?_⟩
  · all_goals refine ⟨[], ?_⟩
    repeat (any_goals (first | exact True.intro | exact rfl | with_reducible_and_instances rfl | exact (by kernel_rfl) | refine And.intro ?_ ?_))
    all_goals conv => whnf
  rintro k ⟨hk, ho⟩
  conv => whnf
  by_cases hlt : k < 65
  · have hxk : c.h[k]? = some c.h[k] := List.getElem?_eq_getElem (by omega)
    generalize c.h[k] = x at hxk
    have ha : okH (c.h.take (k + 1)) = decide (0 ≤ x) := by unfold okH at *; rw [all_take hxk, ho, Bool.true_and]
    iterate 3
      repeat (any_goals (first
        | exact True.intro
        | (refine ⟨_, drop_id, ?_⟩; conv => whnf)
        | (refine ⟨_, _, at_n, ?_⟩; conv => whnf)
        | (refine ⟨_, _, at_hi, ?_⟩; conv => whnf)
        | (refine ⟨_, _, at_lo, ?_⟩; conv => whnf)
        | (refine ⟨_, _, at_mn, ?_⟩; conv => whnf)
        | (refine ⟨_, _, at_mx, ?_⟩; conv => whnf)
        | (refine ⟨_, _, at_ce, ?_⟩; conv => whnf)
        | (refine ⟨_, _, at_po, ?_⟩; conv => whnf)
        | (refine ⟨_, whole_z sC, clenz sC, ?_⟩; conv => whnf)
        | (refine ⟨_, setzC, ?_⟩; conv => whnf)
        | (refine And.intro (clenz sC) ?_; conv => whnf)
        | (refine And.intro fitzC ?_; conv => whnf)
        | (refine ⟨_, whole_cell sC hl, clen sC hl, ?_⟩; conv => whnf)
        | (refine And.intro (clen sC hl) ?_; conv => whnf)
        | (refine And.intro (fitC hl) ?_; conv => whnf)
        | (refine ⟨_, setC hl, ?_⟩; conv => whnf)
        | (refine ⟨_, whole_z sF, clenz sF, ?_⟩; conv => whnf)
        | (refine ⟨_, setzF, ?_⟩; conv => whnf)
        | (refine And.intro (clenz sF) ?_; conv => whnf)
        | (refine And.intro fitzF ?_; conv => whnf)
        | (refine ⟨_, whole_cell sF hl, clen sF hl, ?_⟩; conv => whnf)
        | (refine And.intro (clen sF hl) ?_; conv => whnf)
        | (refine And.intro (fitF hl) ?_; conv => whnf)
        | (refine ⟨_, setF hl, ?_⟩; conv => whnf)
        | (refine And.intro (fit1 hl (by decide)) ?_; conv => whnf)
        | (refine And.intro (fit1 rfl (by decide)) ?_; conv => whnf)
        | (refine ⟨_, sum_cell s25, rfl, ?_⟩; conv => whnf)
        | (refine ⟨_, set_n _, ?_⟩; conv => whnf)
        | (refine ⟨_, set_mn _, ?_⟩; conv => whnf)
        | (refine ⟨_, set_mx _, ?_⟩; conv => whnf)
        | (refine ⟨_, set_ce _, ?_⟩; conv => whnf)
        | (refine ⟨_, set_po _, ?_⟩; conv => whnf)
        | (refine ⟨_, set_s _, ?_⟩; conv => whnf)
        | (refine ⟨_, set_hi _, ?_⟩; conv => whnf)
        | (refine ⟨_, set_lo _, ?_⟩; conv => whnf)
        | (refine ⟨k, _, rfl, Nat.lt_of_lt_of_eq hlt l27.symm, map_get hxk, ?_⟩; conv => whnf)
        | (refine ⟨_, rfl, _, _, drop_row hxk, ?_⟩; conv => whnf)
        | (refine And.intro (fun _ => ?_) tf; conv => whnf)
        | (refine And.intro ft (fun _ => ?_); conv => whnf)
        | (refine And.intro (by kernel_rfl) ?_; conv => whnf)
        | (refine And.intro (by decide) ?_; conv => whnf)
        | (refine And.intro (fun _ => ?_) (fun h => absurd h (by decide)); conv => whnf)
        | (refine And.intro (fun h => absurd h (by decide)) (fun _ => ?_); conv => whnf)
        | (refine And.intro (fun _ => ?_) (fun _ => ?_) <;> conv => whnf)))
      all_goals try (exfalso; simp only [decide_eq_true_eq, decide_eq_false_iff_not, Bool.not_eq_true', Bool.not_eq_false', Bool.not_eq_true, Bool.not_eq_false, beq_iff_eq, bne_iff_ne, beq_eq_false_iff_ne, bne_eq_false_iff_eq, ne_eq, Decidable.not_not] at *; first | omega | contradiction | (simp_all; done) | (simp_all; omega))
      all_goals try (refine Or.inl ?_; conv => whnf)
    · have h1 : x < 0 := (by (try simp only [decide_eq_true_eq, decide_eq_false_iff_not, Bool.not_eq_true', Bool.not_eq_false', Bool.not_eq_true, Bool.not_eq_false, beq_iff_eq, bne_iff_ne, beq_eq_false_iff_ne, bne_eq_false_iff_eq, ne_eq, Decidable.not_not, Int.natCast_eq_zero] at *); first | omega | assumption | (simp_all; done) | (simp_all; omega))
      have hr : okH c.h = false := by
        rw [← List.take_append_drop (k + 1) c.h]
        unfold okH at *
        rw [List.all_append, ha, decide_eq_false (by omega)]; rfl
      rw [right_no2 hr]
      all_goals refine ⟨[], ?_⟩
      repeat (any_goals (first | exact True.intro | exact rfl | with_reducible_and_instances rfl | exact (by kernel_rfl) | refine And.intro ?_ ?_))
      all_goals conv => whnf
    · have h1 : ¬ x < 0 := (by (try simp only [decide_eq_true_eq, decide_eq_false_iff_not, Bool.not_eq_true', Bool.not_eq_false', Bool.not_eq_true, Bool.not_eq_false, beq_iff_eq, bne_iff_ne, beq_eq_false_iff_ne, bne_eq_false_iff_eq, ne_eq, Decidable.not_not, Int.natCast_eq_zero] at *); first | omega | assumption | (simp_all; done) | (simp_all; omega))
      refine ⟨k + 1, ⟨hlt, by rw [ha]; exact decide_eq_true (by omega)⟩, show 65 - (k + 1) < 65 - k by omega, ?_⟩
      all_goals refine ⟨[], ?_⟩
      repeat (any_goals (first | exact True.intro | exact rfl | with_reducible_and_instances rfl | exact (by kernel_rfl) | refine And.intro ?_ ?_))
      all_goals conv => whnf
      exact wk1 (by omega)
  · have hke : k = 65 := by omega
    subst hke
    rw [List.take_of_length_le (by omega)] at ho
    by_cases h3 : c.h.sum = c.n
    case neg =>
      iterate 4
        repeat (any_goals (first
          | exact True.intro
          | (refine ⟨_, drop_id, ?_⟩; conv => whnf)
          | (refine ⟨_, _, at_n, ?_⟩; conv => whnf)
          | (refine ⟨_, _, at_hi, ?_⟩; conv => whnf)
          | (refine ⟨_, _, at_lo, ?_⟩; conv => whnf)
          | (refine ⟨_, _, at_mn, ?_⟩; conv => whnf)
          | (refine ⟨_, _, at_mx, ?_⟩; conv => whnf)
          | (refine ⟨_, _, at_ce, ?_⟩; conv => whnf)
          | (refine ⟨_, _, at_po, ?_⟩; conv => whnf)
          | (refine ⟨_, whole_z sC, clenz sC, ?_⟩; conv => whnf)
          | (refine ⟨_, setzC, ?_⟩; conv => whnf)
          | (refine And.intro (clenz sC) ?_; conv => whnf)
          | (refine And.intro fitzC ?_; conv => whnf)
          | (refine ⟨_, whole_cell sC hl, clen sC hl, ?_⟩; conv => whnf)
          | (refine And.intro (clen sC hl) ?_; conv => whnf)
          | (refine And.intro (fitC hl) ?_; conv => whnf)
          | (refine ⟨_, setC hl, ?_⟩; conv => whnf)
          | (refine ⟨_, whole_z sF, clenz sF, ?_⟩; conv => whnf)
          | (refine ⟨_, setzF, ?_⟩; conv => whnf)
          | (refine And.intro (clenz sF) ?_; conv => whnf)
          | (refine And.intro fitzF ?_; conv => whnf)
          | (refine ⟨_, whole_cell sF hl, clen sF hl, ?_⟩; conv => whnf)
          | (refine And.intro (clen sF hl) ?_; conv => whnf)
          | (refine And.intro (fitF hl) ?_; conv => whnf)
          | (refine ⟨_, setF hl, ?_⟩; conv => whnf)
          | (refine And.intro (fit1 hl (by decide)) ?_; conv => whnf)
          | (refine And.intro (fit1 rfl (by decide)) ?_; conv => whnf)
          | (refine ⟨_, sum_cell s25, rfl, ?_⟩; conv => whnf)
          | (refine ⟨_, set_n _, ?_⟩; conv => whnf)
          | (refine ⟨_, set_mn _, ?_⟩; conv => whnf)
          | (refine ⟨_, set_mx _, ?_⟩; conv => whnf)
          | (refine ⟨_, set_ce _, ?_⟩; conv => whnf)
          | (refine ⟨_, set_po _, ?_⟩; conv => whnf)
          | (refine ⟨_, set_s _, ?_⟩; conv => whnf)
          | (refine ⟨_, set_hi _, ?_⟩; conv => whnf)
          | (refine ⟨_, set_lo _, ?_⟩; conv => whnf)
          | (refine ⟨_, hist_cell s69 hl, whole_len s69 hl, ?_⟩; conv => whnf)
          | (refine And.intro (fun _ => ?_) tf; conv => whnf)
          | (refine And.intro ft (fun _ => ?_); conv => whnf)
          | (refine And.intro (by kernel_rfl) ?_; conv => whnf)
          | (refine And.intro (by decide) ?_; conv => whnf)
          | (refine And.intro (fun _ => ?_) (fun h => absurd h (by decide)); conv => whnf)
          | (refine And.intro (fun h => absurd h (by decide)) (fun _ => ?_); conv => whnf)
          | (refine And.intro (fun _ => ?_) (fun _ => ?_) <;> conv => whnf)
          | (refine ⟨_, _, t1.pu rfl rfl, ?_⟩; conv => whnf)
          | (refine ⟨_, _, w1.pu rfl rfl, ?_⟩; conv => whnf)
          | (refine ⟨_, _, neS (by kernel_rfl), ?_⟩; conv => whnf)))
        all_goals try (exfalso; simp only [decide_eq_true_eq, decide_eq_false_iff_not, Bool.not_eq_true', Bool.not_eq_false', Bool.not_eq_true, Bool.not_eq_false, beq_iff_eq, bne_iff_ne, beq_eq_false_iff_ne, bne_eq_false_iff_eq, ne_eq, Decidable.not_not] at *; first | omega | contradiction | (simp_all; done) | (simp_all; omega))
        all_goals try (refine Or.inl ?_; conv => whnf)
      all_goals try exact (no_way2 h3 ‹_›).elim
      rw [right_no3 h3]
      all_goals refine ⟨[], ?_⟩
      repeat (any_goals (first | exact True.intro | exact rfl | with_reducible_and_instances rfl | exact (by kernel_rfl) | refine And.intro ?_ ?_))
      all_goals conv => whnf
    by_cases h4 : c.n = 0
    case pos =>
      rw [right_zero h0 ho h3 h4]
      iterate 6
        repeat (any_goals (first
          | exact True.intro
          | (refine ⟨_, drop_id, ?_⟩; conv => whnf)
          | (refine ⟨_, _, at_n, ?_⟩; conv => whnf)
          | (refine ⟨_, _, at_hi, ?_⟩; conv => whnf)
          | (refine ⟨_, _, at_lo, ?_⟩; conv => whnf)
          | (refine ⟨_, _, at_mn, ?_⟩; conv => whnf)
          | (refine ⟨_, _, at_mx, ?_⟩; conv => whnf)
          | (refine ⟨_, _, at_ce, ?_⟩; conv => whnf)
          | (refine ⟨_, _, at_po, ?_⟩; conv => whnf)
          | (refine ⟨_, whole_z sC, clenz sC, ?_⟩; conv => whnf)
          | (refine ⟨_, setzC, ?_⟩; conv => whnf)
          | (refine And.intro (clenz sC) ?_; conv => whnf)
          | (refine And.intro fitzC ?_; conv => whnf)
          | (refine ⟨_, whole_cell sC hl, clen sC hl, ?_⟩; conv => whnf)
          | (refine And.intro (clen sC hl) ?_; conv => whnf)
          | (refine And.intro (fitC hl) ?_; conv => whnf)
          | (refine ⟨_, setC hl, ?_⟩; conv => whnf)
          | (refine ⟨_, whole_z sF, clenz sF, ?_⟩; conv => whnf)
          | (refine ⟨_, setzF, ?_⟩; conv => whnf)
          | (refine And.intro (clenz sF) ?_; conv => whnf)
          | (refine And.intro fitzF ?_; conv => whnf)
          | (refine ⟨_, whole_cell sF hl, clen sF hl, ?_⟩; conv => whnf)
          | (refine And.intro (clen sF hl) ?_; conv => whnf)
          | (refine And.intro (fitF hl) ?_; conv => whnf)
          | (refine ⟨_, setF hl, ?_⟩; conv => whnf)
          | (refine And.intro (fit1 hl (by decide)) ?_; conv => whnf)
          | (refine And.intro (fit1 rfl (by decide)) ?_; conv => whnf)
          | (refine ⟨_, sum_cell s25, rfl, ?_⟩; conv => whnf)
          | (refine ⟨_, set_n _, ?_⟩; conv => whnf)
          | (refine ⟨_, set_mn _, ?_⟩; conv => whnf)
          | (refine ⟨_, set_mx _, ?_⟩; conv => whnf)
          | (refine ⟨_, set_ce _, ?_⟩; conv => whnf)
          | (refine ⟨_, set_po _, ?_⟩; conv => whnf)
          | (refine ⟨_, set_s _, ?_⟩; conv => whnf)
          | (refine ⟨_, set_hi _, ?_⟩; conv => whnf)
          | (refine ⟨_, set_lo _, ?_⟩; conv => whnf)
          | (refine ⟨_, hist_cell s69 hl, whole_len s69 hl, ?_⟩; conv => whnf)
          | (refine And.intro (fun _ => ?_) tf; conv => whnf)
          | (refine And.intro ft (fun _ => ?_); conv => whnf)
          | (refine And.intro (by kernel_rfl) ?_; conv => whnf)
          | (refine And.intro (by decide) ?_; conv => whnf)
          | (refine And.intro (fun _ => ?_) (fun h => absurd h (by decide)); conv => whnf)
          | (refine And.intro (fun h => absurd h (by decide)) (fun _ => ?_); conv => whnf)
          | (refine And.intro (fun _ => ?_) (fun _ => ?_) <;> conv => whnf)
          | (refine ⟨_, _, t1.pu rfl rfl, ?_⟩; conv => whnf)
          | (refine ⟨_, _, w1.pu rfl rfl, ?_⟩; conv => whnf)
          | (refine ⟨_, _, neS (by kernel_rfl), ?_⟩; conv => whnf)
          | (refine ⟨_, _, eqS (by kernel_rfl), ?_⟩; conv => whnf)))
        all_goals try (exfalso; simp only [decide_eq_true_eq, decide_eq_false_iff_not, Bool.not_eq_true', Bool.not_eq_false', Bool.not_eq_true, Bool.not_eq_false, beq_iff_eq, bne_iff_ne, beq_eq_false_iff_ne, bne_eq_false_iff_eq, ne_eq, Decidable.not_not] at *; first | omega | contradiction | (simp_all; done) | (simp_all; omega))
        all_goals try (refine Or.inl ?_; conv => whnf)
      all_goals try exact (no_way h3 ‹_›).elim
      · rw [zz1 ‹_› ‹_›]
        all_goals refine ⟨[], ?_⟩
        repeat (any_goals (first | exact True.intro | exact rfl | with_reducible_and_instances rfl | exact (by kernel_rfl) | refine And.intro ?_ ?_))
        all_goals conv => whnf
      · rw [zz2 ‹_›]
        all_goals refine ⟨[], ?_⟩
        repeat (any_goals (first | exact True.intro | exact rfl | with_reducible_and_instances rfl | exact (by kernel_rfl) | refine And.intro ?_ ?_))
        all_goals conv => whnf
      · rw [zz3 ‹_›]
        all_goals refine ⟨[], ?_⟩
        repeat (any_goals (first | exact True.intro | exact rfl | with_reducible_and_instances rfl | exact (by kernel_rfl) | refine And.intro ?_ ?_))
        all_goals conv => whnf
    rw [right_some h0 ho h3 h4]
    iterate 8
      repeat (any_goals (first
        | exact True.intro
        | (refine ⟨_, drop_id, ?_⟩; conv => whnf)
        | (refine ⟨_, _, at_n, ?_⟩; conv => whnf)
        | (refine ⟨_, _, at_hi, ?_⟩; conv => whnf)
        | (refine ⟨_, _, at_lo, ?_⟩; conv => whnf)
        | (refine ⟨_, _, at_mn, ?_⟩; conv => whnf)
        | (refine ⟨_, _, at_mx, ?_⟩; conv => whnf)
        | (refine ⟨_, _, at_ce, ?_⟩; conv => whnf)
        | (refine ⟨_, _, at_po, ?_⟩; conv => whnf)
        | (refine ⟨_, whole_z sC, clenz sC, ?_⟩; conv => whnf)
        | (refine ⟨_, setzC, ?_⟩; conv => whnf)
        | (refine And.intro (clenz sC) ?_; conv => whnf)
        | (refine And.intro fitzC ?_; conv => whnf)
        | (refine ⟨_, whole_cell sC hl, clen sC hl, ?_⟩; conv => whnf)
        | (refine And.intro (clen sC hl) ?_; conv => whnf)
        | (refine And.intro (fitC hl) ?_; conv => whnf)
        | (refine ⟨_, setC hl, ?_⟩; conv => whnf)
        | (refine ⟨_, whole_z sF, clenz sF, ?_⟩; conv => whnf)
        | (refine ⟨_, setzF, ?_⟩; conv => whnf)
        | (refine And.intro (clenz sF) ?_; conv => whnf)
        | (refine And.intro fitzF ?_; conv => whnf)
        | (refine ⟨_, whole_cell sF hl, clen sF hl, ?_⟩; conv => whnf)
        | (refine And.intro (clen sF hl) ?_; conv => whnf)
        | (refine And.intro (fitF hl) ?_; conv => whnf)
        | (refine ⟨_, setF hl, ?_⟩; conv => whnf)
        | (refine And.intro (fit1 hl (by decide)) ?_; conv => whnf)
        | (refine And.intro (fit1 rfl (by decide)) ?_; conv => whnf)
        | (refine ⟨_, sum_cell s25, rfl, ?_⟩; conv => whnf)
        | (refine ⟨_, set_n _, ?_⟩; conv => whnf)
        | (refine ⟨_, set_mn _, ?_⟩; conv => whnf)
        | (refine ⟨_, set_mx _, ?_⟩; conv => whnf)
        | (refine ⟨_, set_ce _, ?_⟩; conv => whnf)
        | (refine ⟨_, set_po _, ?_⟩; conv => whnf)
        | (refine ⟨_, set_s _, ?_⟩; conv => whnf)
        | (refine ⟨_, set_hi _, ?_⟩; conv => whnf)
        | (refine ⟨_, set_lo _, ?_⟩; conv => whnf)
        | (refine ⟨bkt c.mn, rfl, Nat.lt_of_lt_of_eq k1 l27.symm, ?_⟩; conv => whnf)
        | (refine ⟨bkt c.mx, rfl, Nat.lt_of_lt_of_eq k2 l27.symm, ?_⟩; conv => whnf)
        | (refine ⟨_, _, at_h hl k1, ?_⟩; conv => whnf)
        | (refine ⟨_, _, at_h hl k2, ?_⟩; conv => whnf)
        | (refine ⟨_, hist_cell s69 hl, whole_len s69 hl, ?_⟩; conv => whnf)
        | (refine And.intro (fun _ => ?_) tf; conv => whnf)
        | (refine And.intro ft (fun _ => ?_); conv => whnf)
        | (refine And.intro (by kernel_rfl) ?_; conv => whnf)
        | (refine And.intro (by decide) ?_; conv => whnf)
        | (refine And.intro (fun _ => ?_) (fun h => absurd h (by decide)); conv => whnf)
        | (refine And.intro (fun h => absurd h (by decide)) (fun _ => ?_); conv => whnf)
        | (refine And.intro (fun _ => ?_) (fun _ => ?_) <;> conv => whnf)
        | (refine ⟨_, _, t1.pu rfl rfl, ?_⟩; conv => whnf)
        | (refine ⟨_, _, w1.pu rfl rfl, ?_⟩; conv => whnf)
        | (refine ⟨_, _, b1.pu rfl rfl, ?_⟩; conv => whnf)
        | (refine ⟨_, _, b2.pu rfl rfl, ?_⟩; conv => whnf)
        | (refine ⟨_, _, neS (by kernel_rfl), ?_⟩; conv => whnf)
        | (refine ⟨_, _, f1.nw rfl, ?_⟩; conv => whnf)))
      all_goals try (exfalso; simp only [decide_eq_true_eq, decide_eq_false_iff_not, Bool.not_eq_true', Bool.not_eq_false', Bool.not_eq_true, Bool.not_eq_false, beq_iff_eq, bne_iff_ne, beq_eq_false_iff_ne, bne_eq_false_iff_eq, ne_eq, Decidable.not_not] at *; first | omega | contradiction | (simp_all; done) | (simp_all; omega))
      all_goals try (refine Or.inl ?_; conv => whnf)
    all_goals try exact (no_way h3 ‹_›).elim
    · rw [rr2 ‹_›]
      all_goals refine ⟨[], ?_⟩
      repeat (any_goals (first | exact True.intro | exact rfl | with_reducible_and_instances rfl | exact (by kernel_rfl) | refine And.intro ?_ ?_))
      all_goals conv => whnf
    · have q1 := rr3 (c := c) ‹_› ‹_›
      rw [q1]
      refine ⟨Nat, Nat, fun y z => z = y ∧ y ≤ 65 ∧ ∀ b, b < y → hAt c.h b ≠ 0 → bkt c.mn ≤ b ∧ b ≤ bkt c.mx, fun _ => [.row (cR c), .cells [bA false], .cells [iA (bkt c.mn)], .cells [iA (bkt c.mx)], .row (hR c.h)], [(80, .fn (.func 80) [] [.ptr 4 0]), (6, .ptr 3 0), (5, .ptr 2 0), (2, .ptr 1 0), (1, .ptr 0 0)], 5, _, _, _, [.dead, .dead, .dead, .dead, .row (hR c.h)], 0, _, _, ⟨0, ⟨rfl, by omega, fun b hb => absurd hb (by omega)⟩, ?_⟩, rfl, rfl, fullN hl rfl, ?_, ?_, ?_, ?_⟩
      · all_goals refine ⟨[], ?_⟩
        repeat (any_goals (first | exact True.intro | exact rfl | with_reducible_and_instances rfl | exact (by kernel_rfl) | refine And.intro ?_ ?_))
        all_goals conv => whnf
      · rintro y x y' ⟨b, v, _, rfl⟩; rfl
      · rintro y z _; exact ⟨⟨rfl, trivial⟩, Nat.le_refl _⟩
      · rintro y z x y' ⟨rfl, hy, hall⟩ ⟨b, v, ⟨hyb, hb, hbv, hv0, hz, rfl⟩, rfl⟩
        have hne : hAt c.h b ≠ 0 := by unfold hAt; rw [hbv]; exact hv0
        conv => whnf
        by_cases h5 : bkt c.mn ≤ b ∧ b ≤ bkt c.mx
        · iterate 3
            repeat (any_goals (first
              | exact True.intro
              | (refine And.intro (fun _ => ?_) tf; conv => whnf)
              | (refine And.intro ft (fun _ => ?_); conv => whnf)
              | (refine And.intro (by kernel_rfl) ?_; conv => whnf)
              | (refine And.intro (by decide) ?_; conv => whnf)
              | (refine And.intro (fun _ => ?_) (fun h => absurd h (by decide)); conv => whnf)
              | (refine And.intro (fun h => absurd h (by decide)) (fun _ => ?_); conv => whnf)
              | (refine And.intro (fun _ => ?_) (fun _ => ?_) <;> conv => whnf)))
            all_goals try (exfalso; simp only [decide_eq_true_eq, decide_eq_false_iff_not, Bool.not_eq_true', Bool.not_eq_false', Bool.not_eq_true, Bool.not_eq_false, beq_iff_eq, bne_iff_ne, beq_eq_false_iff_ne, bne_eq_false_iff_eq, ne_eq, Decidable.not_not] at *; first | omega | contradiction | (simp_all; done) | (simp_all; omega))
            all_goals try (refine Or.inl ?_; conv => whnf)
          refine ⟨b + 1, ⟨rfl, by omega, fun j hj hjn => ?_⟩, ?_⟩
          · by_cases e : j = b
            · subst e; exact h5
            · refine hall j ?_ hjn
              by_cases q : z ≤ j
              · exact absurd (by unfold hAt; rw [hz j q (by omega)]; rfl) hjn
              · omega
          · all_goals refine ⟨[], ?_⟩
            repeat (any_goals (first | exact True.intro | exact rfl | with_reducible_and_instances rfl | exact (by kernel_rfl) | refine And.intro ?_ ?_))
            all_goals conv => whnf
        · rw [inB_no hb hne (by omega)]
          iterate 3
            repeat (any_goals (first
              | exact True.intro
              | (refine And.intro (fun _ => ?_) tf; conv => whnf)
              | (refine And.intro ft (fun _ => ?_); conv => whnf)
              | (refine And.intro (by kernel_rfl) ?_; conv => whnf)
              | (refine And.intro (by decide) ?_; conv => whnf)
              | (refine And.intro (fun _ => ?_) (fun h => absurd h (by decide)); conv => whnf)
              | (refine And.intro (fun h => absurd h (by decide)) (fun _ => ?_); conv => whnf)
              | (refine And.intro (fun _ => ?_) (fun _ => ?_) <;> conv => whnf)))
            all_goals try (exfalso; simp only [decide_eq_true_eq, decide_eq_false_iff_not, Bool.not_eq_true', Bool.not_eq_false', Bool.not_eq_true, Bool.not_eq_false, beq_iff_eq, bne_iff_ne, beq_eq_false_iff_ne, bne_eq_false_iff_eq, ne_eq, Decidable.not_not] at *; first | omega | contradiction | (simp_all; done) | (simp_all; omega))
            all_goals try (refine Or.inl ?_; conv => whnf)
          all_goals refine ⟨[], ?_⟩
          repeat (any_goals (first | exact True.intro | exact rfl | with_reducible_and_instances rfl | exact (by kernel_rfl) | refine And.intro ?_ ?_))
          all_goals conv => whnf
      · rintro y z ⟨hy2, hz⟩ ⟨rfl, hy, hall⟩
        rw [inB_yes fun b hb hbn => by
          by_cases q : z ≤ b
          · exact absurd (by unfold hAt; rw [hz b q hb]; rfl) hbn
          · exact hall b (by omega) hbn]
        conv => whnf
        iterate 3
          repeat (any_goals (first
            | exact True.intro
            | (refine And.intro (fun _ => ?_) tf; conv => whnf)
            | (refine And.intro ft (fun _ => ?_); conv => whnf)
            | (refine And.intro (by kernel_rfl) ?_; conv => whnf)
            | (refine And.intro (by decide) ?_; conv => whnf)
            | (refine And.intro (fun _ => ?_) (fun h => absurd h (by decide)); conv => whnf)
            | (refine And.intro (fun h => absurd h (by decide)) (fun _ => ?_); conv => whnf)
            | (refine And.intro (fun _ => ?_) (fun _ => ?_) <;> conv => whnf)))
          all_goals try (exfalso; simp only [decide_eq_true_eq, decide_eq_false_iff_not, Bool.not_eq_true', Bool.not_eq_false', Bool.not_eq_true, Bool.not_eq_false, beq_iff_eq, bne_iff_ne, beq_eq_false_iff_ne, bne_eq_false_iff_eq, ne_eq, Decidable.not_not] at *; first | omega | contradiction | (simp_all; done) | (simp_all; omega))
          all_goals try (refine Or.inl ?_; conv => whnf)
        all_goals refine ⟨[], ?_⟩
        repeat (any_goals (first | exact True.intro | exact rfl | with_reducible_and_instances rfl | exact (by kernel_rfl) | refine And.intro ?_ ?_))
        all_goals conv => whnf
    · rw [rr1 ‹_›]
      all_goals refine ⟨[], ?_⟩
      repeat (any_goals (first | exact True.intro | exact rfl | with_reducible_and_instances rfl | exact (by kernel_rfl) | refine And.intro ?_ ?_))
      all_goals conv => whnf
end Go.Proofs.Ytbjmdnemeidpjaa
/- Add, Fold of cells. -/
namespace Go.Proofs.Ytbjmdnemeidpjaa
set_option linter.unusedSimpArgs false
set_option linter.unusedVariables false
open Go.RowKit
set_option maxRecDepth 100000
theorem hist_fit {c : Cel} {h : List Int} (hc : c.h.length = 65) (hh : h.length = 65) : 0 + 7 + (hR h).length ≤ (cR c).length := by rw [cR_len hc, hR_len]; omega
theorem sum_fit {c : Cel} {x y : D} (hc : c.h.length = 65) : 0 + 1 + [x, y].length ≤ (cR c).length := by rw [cR_len hc]; simp
theorem min_if (m v : Int) : min m v = if v < m then v else m := by split <;> omega
theorem max_if (m v : Int) : max m v = if v > m then v else m := by split <;> omega
set_option maxHeartbeats 4000000 in
theorem add_sat_c (c : Cel) (v : Int) (hc : CelOK c) (hv : in64 v) : Sat Try.prog 15 [.d (cD c), iA v] [] (.tup [.d (cD (addC c v).1), iA (addC c v).2]) [] := by
  have hl := hc.hl
  have r1 := right_sat_c c hc

  by_cases hr : rightC c = true
  case neg =>
    have hr : rightC c = false := by simpa using hr
    have e : addC c v = (zC, 10) := by unfold addC; rw [if_pos hr]
    rw [e]
    rw [hr] at r1
    refine sat_of_vc (T := tiOf Try.prog) (E := E0) Try.func15 rfl rfl hE0 hm0 rfl ?_
    conv => whnf
    iterate 3
      repeat (any_goals (first
        | exact True.intro
        | (refine ⟨_, drop_id, ?_⟩; conv => whnf)
        | (refine ⟨_, _, at_n, ?_⟩; conv => whnf)
        | (refine ⟨_, _, at_hi, ?_⟩; conv => whnf)
        | (refine ⟨_, _, at_lo, ?_⟩; conv => whnf)
        | (refine ⟨_, _, at_mn, ?_⟩; conv => whnf)
        | (refine ⟨_, _, at_mx, ?_⟩; conv => whnf)
        | (refine ⟨_, _, at_ce, ?_⟩; conv => whnf)
        | (refine ⟨_, _, at_po, ?_⟩; conv => whnf)
        | (refine ⟨_, whole_z sC, clenz sC, ?_⟩; conv => whnf)
        | (refine ⟨_, setzC, ?_⟩; conv => whnf)
        | (refine And.intro (clenz sC) ?_; conv => whnf)
        | (refine And.intro fitzC ?_; conv => whnf)
        | (refine ⟨_, whole_cell sC hl, clen sC hl, ?_⟩; conv => whnf)
        | (refine And.intro (clen sC hl) ?_; conv => whnf)
        | (refine And.intro (fitC hl) ?_; conv => whnf)
        | (refine ⟨_, setC hl, ?_⟩; conv => whnf)
        | (refine ⟨_, whole_z sF, clenz sF, ?_⟩; conv => whnf)
        | (refine ⟨_, setzF, ?_⟩; conv => whnf)
        | (refine And.intro (clenz sF) ?_; conv => whnf)
        | (refine And.intro fitzF ?_; conv => whnf)
        | (refine ⟨_, whole_cell sF hl, clen sF hl, ?_⟩; conv => whnf)
        | (refine And.intro (clen sF hl) ?_; conv => whnf)
        | (refine And.intro (fitF hl) ?_; conv => whnf)
        | (refine ⟨_, setF hl, ?_⟩; conv => whnf)
        | (refine And.intro (fit1 hl (by decide)) ?_; conv => whnf)
        | (refine And.intro (fit1 rfl (by decide)) ?_; conv => whnf)
        | (refine ⟨_, sum_cell s25, rfl, ?_⟩; conv => whnf)
        | (refine ⟨_, set_n _, ?_⟩; conv => whnf)
        | (refine ⟨_, set_mn _, ?_⟩; conv => whnf)
        | (refine ⟨_, set_mx _, ?_⟩; conv => whnf)
        | (refine ⟨_, set_ce _, ?_⟩; conv => whnf)
        | (refine ⟨_, set_po _, ?_⟩; conv => whnf)
        | (refine ⟨_, set_s _, ?_⟩; conv => whnf)
        | (refine ⟨_, set_hi _, ?_⟩; conv => whnf)
        | (refine ⟨_, set_lo _, ?_⟩; conv => whnf)
        | (refine And.intro (fun _ => ?_) tf; conv => whnf)
        | (refine And.intro ft (fun _ => ?_); conv => whnf)
        | (refine And.intro (by kernel_rfl) ?_; conv => whnf)
        | (refine And.intro (by decide) ?_; conv => whnf)
        | (refine And.intro (fun _ => ?_) (fun h => absurd h (by decide)); conv => whnf)
        | (refine And.intro (fun h => absurd h (by decide)) (fun _ => ?_); conv => whnf)
        | (refine And.intro (fun _ => ?_) (fun _ => ?_) <;> conv => whnf)
        | (refine ⟨_, _, r1.pu rfl rfl, ?_⟩; conv => whnf)))
      all_goals try (exfalso; simp only [decide_eq_true_eq, decide_eq_false_iff_not, Bool.not_eq_true', Bool.not_eq_false', Bool.not_eq_true, Bool.not_eq_false, beq_iff_eq, bne_iff_ne, beq_eq_false_iff_ne, bne_eq_false_iff_eq, ne_eq, Decidable.not_not] at *; first | omega | contradiction | (simp_all; done) | (simp_all; omega))
      all_goals try (refine Or.inl ?_; conv => whnf)
    all_goals refine ⟨[], ?_⟩
    repeat (any_goals (first | exact True.intro | exact rfl | with_reducible_and_instances rfl | exact (by kernel_rfl) | refine And.intro ?_ ?_))
    all_goals conv => whnf
  have hR := right_iff.1 hr
  rw [hr] at r1
  have sa := safeAdd_sat c.n 1 hc.n (by unfold in64; omega)
  have hn0 := hR.n
  by_cases hn : c.n = big
  · have e : addC c v = (zC, 12) := by unfold addC; rw [if_neg (by rw [hr]; simp), if_pos hn]
    have e2 : addR c.n 1 = (0, 12) := by unfold addR; rw [if_pos (by rw [hn]; unfold big; omega)]
    rw [e]
    rw [e2] at sa
    refine sat_of_vc (T := tiOf Try.prog) (E := E0) Try.func15 rfl rfl hE0 hm0 rfl ?_
    conv => whnf
    iterate 4
      repeat (any_goals (first
        | exact True.intro
        | (refine ⟨_, drop_id, ?_⟩; conv => whnf)
        | (refine ⟨_, _, at_n, ?_⟩; conv => whnf)
        | (refine ⟨_, _, at_hi, ?_⟩; conv => whnf)
        | (refine ⟨_, _, at_lo, ?_⟩; conv => whnf)
        | (refine ⟨_, _, at_mn, ?_⟩; conv => whnf)
        | (refine ⟨_, _, at_mx, ?_⟩; conv => whnf)
        | (refine ⟨_, _, at_ce, ?_⟩; conv => whnf)
        | (refine ⟨_, _, at_po, ?_⟩; conv => whnf)
        | (refine ⟨_, whole_z sC, clenz sC, ?_⟩; conv => whnf)
        | (refine ⟨_, setzC, ?_⟩; conv => whnf)
        | (refine And.intro (clenz sC) ?_; conv => whnf)
        | (refine And.intro fitzC ?_; conv => whnf)
        | (refine ⟨_, whole_cell sC hl, clen sC hl, ?_⟩; conv => whnf)
        | (refine And.intro (clen sC hl) ?_; conv => whnf)
        | (refine And.intro (fitC hl) ?_; conv => whnf)
        | (refine ⟨_, setC hl, ?_⟩; conv => whnf)
        | (refine ⟨_, whole_z sF, clenz sF, ?_⟩; conv => whnf)
        | (refine ⟨_, setzF, ?_⟩; conv => whnf)
        | (refine And.intro (clenz sF) ?_; conv => whnf)
        | (refine And.intro fitzF ?_; conv => whnf)
        | (refine ⟨_, whole_cell sF hl, clen sF hl, ?_⟩; conv => whnf)
        | (refine And.intro (clen sF hl) ?_; conv => whnf)
        | (refine And.intro (fitF hl) ?_; conv => whnf)
        | (refine ⟨_, setF hl, ?_⟩; conv => whnf)
        | (refine And.intro (fit1 hl (by decide)) ?_; conv => whnf)
        | (refine And.intro (fit1 rfl (by decide)) ?_; conv => whnf)
        | (refine ⟨_, sum_cell s25, rfl, ?_⟩; conv => whnf)
        | (refine ⟨_, set_n _, ?_⟩; conv => whnf)
        | (refine ⟨_, set_mn _, ?_⟩; conv => whnf)
        | (refine ⟨_, set_mx _, ?_⟩; conv => whnf)
        | (refine ⟨_, set_ce _, ?_⟩; conv => whnf)
        | (refine ⟨_, set_po _, ?_⟩; conv => whnf)
        | (refine ⟨_, set_s _, ?_⟩; conv => whnf)
        | (refine ⟨_, set_hi _, ?_⟩; conv => whnf)
        | (refine ⟨_, set_lo _, ?_⟩; conv => whnf)
        | (refine And.intro (fun _ => ?_) tf; conv => whnf)
        | (refine And.intro ft (fun _ => ?_); conv => whnf)
        | (refine And.intro (by kernel_rfl) ?_; conv => whnf)
        | (refine And.intro (by decide) ?_; conv => whnf)
        | (refine And.intro (fun _ => ?_) (fun h => absurd h (by decide)); conv => whnf)
        | (refine And.intro (fun h => absurd h (by decide)) (fun _ => ?_); conv => whnf)
        | (refine And.intro (fun _ => ?_) (fun _ => ?_) <;> conv => whnf)
        | (refine ⟨_, _, r1.pu rfl rfl, ?_⟩; conv => whnf)
        | (refine ⟨_, _, sa.pu rfl rfl, ?_⟩; conv => whnf)))
      all_goals try (exfalso; simp only [decide_eq_true_eq, decide_eq_false_iff_not, Bool.not_eq_true', Bool.not_eq_false', Bool.not_eq_true, Bool.not_eq_false, beq_iff_eq, bne_iff_ne, beq_eq_false_iff_ne, bne_eq_false_iff_eq, ne_eq, Decidable.not_not] at *; first | omega | contradiction | (simp_all; done) | (simp_all; omega))
      all_goals try (refine Or.inl ?_; conv => whnf)
    all_goals refine ⟨[], ?_⟩
    repeat (any_goals (first | exact True.intro | exact rfl | with_reducible_and_instances rfl | exact (by kernel_rfl) | refine And.intro ?_ ?_))
    all_goals conv => whnf
  have e2 : addR c.n 1 = (c.n + 1, 0) := by unfold addR; rw [if_neg (by have := hc.n; unfold in64 at this; unfold big at hn; omega)]
  rw [e2] at sa
  have wo := wof_sat v hv
  have wa := wadd_sat c.s v hc.s (by unfold in128 hiZ word; unfold in64 at *; omega)
  by_cases hs : in128 (c.s + v)
  case neg =>
    have e : addC c v = (zC, 12) := by unfold addC; rw [if_neg (by rw [hr]; simp), if_neg hn, if_pos hs]
    rw [e]
    rw [if_neg hs] at wa
    refine sat_of_vc (T := tiOf Try.prog) (E := E0) Try.func15 rfl rfl hE0 hm0 rfl ?_
    conv => whnf
    iterate 5
      repeat (any_goals (first
        | exact True.intro
        | (refine ⟨_, drop_id, ?_⟩; conv => whnf)
        | (refine ⟨_, _, at_n, ?_⟩; conv => whnf)
        | (refine ⟨_, _, at_hi, ?_⟩; conv => whnf)
        | (refine ⟨_, _, at_lo, ?_⟩; conv => whnf)
        | (refine ⟨_, _, at_mn, ?_⟩; conv => whnf)
        | (refine ⟨_, _, at_mx, ?_⟩; conv => whnf)
        | (refine ⟨_, _, at_ce, ?_⟩; conv => whnf)
        | (refine ⟨_, _, at_po, ?_⟩; conv => whnf)
        | (refine ⟨_, whole_z sC, clenz sC, ?_⟩; conv => whnf)
        | (refine ⟨_, setzC, ?_⟩; conv => whnf)
        | (refine And.intro (clenz sC) ?_; conv => whnf)
        | (refine And.intro fitzC ?_; conv => whnf)
        | (refine ⟨_, whole_cell sC hl, clen sC hl, ?_⟩; conv => whnf)
        | (refine And.intro (clen sC hl) ?_; conv => whnf)
        | (refine And.intro (fitC hl) ?_; conv => whnf)
        | (refine ⟨_, setC hl, ?_⟩; conv => whnf)
        | (refine ⟨_, whole_z sF, clenz sF, ?_⟩; conv => whnf)
        | (refine ⟨_, setzF, ?_⟩; conv => whnf)
        | (refine And.intro (clenz sF) ?_; conv => whnf)
        | (refine And.intro fitzF ?_; conv => whnf)
        | (refine ⟨_, whole_cell sF hl, clen sF hl, ?_⟩; conv => whnf)
        | (refine And.intro (clen sF hl) ?_; conv => whnf)
        | (refine And.intro (fitF hl) ?_; conv => whnf)
        | (refine ⟨_, setF hl, ?_⟩; conv => whnf)
        | (refine And.intro (fit1 hl (by decide)) ?_; conv => whnf)
        | (refine And.intro (fit1 rfl (by decide)) ?_; conv => whnf)
        | (refine ⟨_, sum_cell s25, rfl, ?_⟩; conv => whnf)
        | (refine ⟨_, set_n _, ?_⟩; conv => whnf)
        | (refine ⟨_, set_mn _, ?_⟩; conv => whnf)
        | (refine ⟨_, set_mx _, ?_⟩; conv => whnf)
        | (refine ⟨_, set_ce _, ?_⟩; conv => whnf)
        | (refine ⟨_, set_po _, ?_⟩; conv => whnf)
        | (refine ⟨_, set_s _, ?_⟩; conv => whnf)
        | (refine ⟨_, set_hi _, ?_⟩; conv => whnf)
        | (refine ⟨_, set_lo _, ?_⟩; conv => whnf)
        | (refine And.intro (fun _ => ?_) tf; conv => whnf)
        | (refine And.intro ft (fun _ => ?_); conv => whnf)
        | (refine And.intro (by kernel_rfl) ?_; conv => whnf)
        | (refine And.intro (by decide) ?_; conv => whnf)
        | (refine And.intro (fun _ => ?_) (fun h => absurd h (by decide)); conv => whnf)
        | (refine And.intro (fun h => absurd h (by decide)) (fun _ => ?_); conv => whnf)
        | (refine And.intro (fun _ => ?_) (fun _ => ?_) <;> conv => whnf)
        | (refine ⟨_, _, r1.pu rfl rfl, ?_⟩; conv => whnf)
        | (refine ⟨_, _, sa.pu rfl rfl, ?_⟩; conv => whnf)
        | (refine ⟨_, _, wo.pu rfl rfl, ?_⟩; conv => whnf)
        | (refine ⟨_, _, wa.pu rfl rfl, ?_⟩; conv => whnf)))
      all_goals try (exfalso; simp only [decide_eq_true_eq, decide_eq_false_iff_not, Bool.not_eq_true', Bool.not_eq_false', Bool.not_eq_true, Bool.not_eq_false, beq_iff_eq, bne_iff_ne, beq_eq_false_iff_ne, bne_eq_false_iff_eq, ne_eq, Decidable.not_not] at *; first | omega | contradiction | (simp_all; done) | (simp_all; omega))
      all_goals try (refine Or.inl ?_; conv => whnf)
    all_goals refine ⟨[], ?_⟩
    repeat (any_goals (first | exact True.intro | exact rfl | with_reducible_and_instances rfl | exact (by kernel_rfl) | refine And.intro ?_ ?_))
    all_goals conv => whnf
  rw [if_pos hs] at wa
  obtain ⟨h1, h2⟩ := hist_fine hc hR hv hn
  have ha := add_sat c.h v hl hv hc.hx
  rw [h1, h2] at ha
  have hbl : (bump c.h (bkt v)).length = 65 := by rw [bump_len]; exact hl
  have hf := addC_fine (v := v) hR hn hs
  rw [hf]
  generalize bump c.h (bkt v) = b at *
  generalize c.s + v = s at *
  refine sat_of_vc (T := tiOf Try.prog) (E := E0) Try.func15 rfl rfl hE0 hm0 rfl ?_
  conv => whnf
  iterate 7
    repeat (any_goals (first
      | exact True.intro
      | (refine ⟨_, drop_id, ?_⟩; conv => whnf)
      | (refine ⟨_, _, at_n, ?_⟩; conv => whnf)
      | (refine ⟨_, _, at_hi, ?_⟩; conv => whnf)
      | (refine ⟨_, _, at_lo, ?_⟩; conv => whnf)
      | (refine ⟨_, _, at_mn, ?_⟩; conv => whnf)
      | (refine ⟨_, _, at_mx, ?_⟩; conv => whnf)
      | (refine ⟨_, _, at_ce, ?_⟩; conv => whnf)
      | (refine ⟨_, _, at_po, ?_⟩; conv => whnf)
      | (refine ⟨_, whole_z sC, clenz sC, ?_⟩; conv => whnf)
      | (refine ⟨_, setzC, ?_⟩; conv => whnf)
      | (refine And.intro (clenz sC) ?_; conv => whnf)
      | (refine And.intro fitzC ?_; conv => whnf)
      | (refine ⟨_, whole_cell sC hl, clen sC hl, ?_⟩; conv => whnf)
      | (refine And.intro (clen sC hl) ?_; conv => whnf)
      | (refine And.intro (fitC hl) ?_; conv => whnf)
      | (refine ⟨_, setC hl, ?_⟩; conv => whnf)
      | (refine ⟨_, whole_cell sC hbl, clen sC hbl, ?_⟩; conv => whnf)
      | (refine And.intro (clen sC hbl) ?_; conv => whnf)
      | (refine And.intro (fitC hbl) ?_; conv => whnf)
      | (refine ⟨_, setC hbl, ?_⟩; conv => whnf)
      | (refine ⟨_, whole_z sF, clenz sF, ?_⟩; conv => whnf)
      | (refine ⟨_, setzF, ?_⟩; conv => whnf)
      | (refine And.intro (clenz sF) ?_; conv => whnf)
      | (refine And.intro fitzF ?_; conv => whnf)
      | (refine ⟨_, whole_cell sF hl, clen sF hl, ?_⟩; conv => whnf)
      | (refine And.intro (clen sF hl) ?_; conv => whnf)
      | (refine And.intro (fitF hl) ?_; conv => whnf)
      | (refine ⟨_, setF hl, ?_⟩; conv => whnf)
      | (refine ⟨_, whole_cell sF hbl, clen sF hbl, ?_⟩; conv => whnf)
      | (refine And.intro (clen sF hbl) ?_; conv => whnf)
      | (refine And.intro (fitF hbl) ?_; conv => whnf)
      | (refine ⟨_, setF hbl, ?_⟩; conv => whnf)
      | (refine And.intro (fit1 hl (by decide)) ?_; conv => whnf)
      | (refine And.intro (fit1 hbl (by decide)) ?_; conv => whnf)
      | (refine And.intro (fit1 rfl (by decide)) ?_; conv => whnf)
      | (refine ⟨_, sum_cell s25, rfl, ?_⟩; conv => whnf)
      | (refine ⟨_, set_n _, ?_⟩; conv => whnf)
      | (refine ⟨_, set_mn _, ?_⟩; conv => whnf)
      | (refine ⟨_, set_mx _, ?_⟩; conv => whnf)
      | (refine ⟨_, set_ce _, ?_⟩; conv => whnf)
      | (refine ⟨_, set_po _, ?_⟩; conv => whnf)
      | (refine ⟨_, set_s _, ?_⟩; conv => whnf)
      | (refine ⟨_, set_hi _, ?_⟩; conv => whnf)
      | (refine ⟨_, set_lo _, ?_⟩; conv => whnf)
      | (refine ⟨_, hist_cell s69 hl, whole_len s69 hl, ?_⟩; conv => whnf)
      | (refine ⟨_, whole_row s69 hbl, whole_len s69 hbl, ?_⟩; conv => whnf)
      | (refine And.intro (whole_len s69 hbl) ?_; conv => whnf)
      | (refine And.intro (fit69 hbl) ?_; conv => whnf)
      | (refine ⟨_, set69 hbl, ?_⟩; conv => whnf)
      | (refine And.intro (hist_fit hl hbl) ?_; conv => whnf)
      | (refine ⟨_, set_hh hl hbl, ?_⟩; conv => whnf)
      | (refine And.intro (sum_fit hl) ?_; conv => whnf)
      | (refine And.intro (fun _ => ?_) tf; conv => whnf)
      | (refine And.intro ft (fun _ => ?_); conv => whnf)
      | (refine And.intro (by kernel_rfl) ?_; conv => whnf)
      | (refine And.intro (by decide) ?_; conv => whnf)
      | (refine And.intro (fun _ => ?_) (fun h => absurd h (by decide)); conv => whnf)
      | (refine And.intro (fun h => absurd h (by decide)) (fun _ => ?_); conv => whnf)
      | (refine And.intro (fun _ => ?_) (fun _ => ?_) <;> conv => whnf)
      | (refine ⟨_, _, r1.pu rfl rfl, ?_⟩; conv => whnf)
      | (refine ⟨_, _, sa.pu rfl rfl, ?_⟩; conv => whnf)
      | (refine ⟨_, _, wo.pu rfl rfl, ?_⟩; conv => whnf)
      | (refine ⟨_, _, wa.pu rfl rfl, ?_⟩; conv => whnf)
      | (refine ⟨_, _, ha.pu rfl rfl, ?_⟩; conv => whnf)))
    all_goals try (exfalso; simp only [decide_eq_true_eq, decide_eq_false_iff_not, Bool.not_eq_true', Bool.not_eq_false', Bool.not_eq_true, Bool.not_eq_false, beq_iff_eq, bne_iff_ne, beq_eq_false_iff_ne, bne_eq_false_iff_eq, ne_eq, Decidable.not_not] at *; first | omega | contradiction | (simp_all; done) | (simp_all; omega))
    all_goals try (refine Or.inl ?_; conv => whnf)
  · have q : c.n = 0 := (by (try simp only [decide_eq_true_eq, decide_eq_false_iff_not, Bool.not_eq_true', Bool.not_eq_false', Bool.not_eq_true, Bool.not_eq_false, beq_iff_eq, bne_iff_ne, beq_eq_false_iff_ne, bne_eq_false_iff_eq, ne_eq, Decidable.not_not, Int.natCast_eq_zero] at *); first | omega | assumption | (simp_all; done) | (simp_all; omega))
    rw [if_pos q, if_pos q]
    have e1 : (if v < v then v else v) = v := by split <;> rfl
    rw [e1]
    all_goals refine ⟨[], ?_⟩
    repeat (any_goals (first | exact True.intro | exact rfl | with_reducible_and_instances rfl | exact (by kernel_rfl) | refine And.intro ?_ ?_))
    all_goals conv => whnf
  · have q : ¬ c.n = 0 := (by (try simp only [decide_eq_true_eq, decide_eq_false_iff_not, Bool.not_eq_true', Bool.not_eq_false', Bool.not_eq_true, Bool.not_eq_false, beq_iff_eq, bne_iff_ne, beq_eq_false_iff_ne, bne_eq_false_iff_eq, ne_eq, Decidable.not_not, Int.natCast_eq_zero] at *); first | omega | assumption | (simp_all; done) | (simp_all; omega))
    rw [if_neg q, if_neg q, min_if, max_if]
    all_goals refine ⟨[], ?_⟩
    repeat (any_goals (first | exact True.intro | exact rfl | with_reducible_and_instances rfl | exact (by kernel_rfl) | refine And.intro ?_ ?_))
    all_goals conv => whnf
end Go.Proofs.Ytbjmdnemeidpjaa
/- Fold of a cell. -/
namespace Go.Proofs.Ytbjmdnemeidpjaa
set_option linter.unusedSimpArgs false
set_option linter.unusedVariables false
open Go.RowKit
set_option maxRecDepth 100000
theorem wsum_sat (l : List Int) (hl : ∀ z ∈ l, in64 z) (hn : l.length ≤ 60000) : Sat Try.prog 29 [.d (lD l)] [] (.d (wD l.sum)) [] :=
  .of_sl (lR_flats l) .nil (.d (wD_flat _)) fun w A c _ _ hr => by
    rw [List.length_map] at hr ⊢
    exact sum_any A l.length c l w hr (by omega) hl
theorem build_cell {n s : Int} {h : List Int} (hh : h.length = 65) : sets (sets (sets (List.map D.v (tiOf Try.prog 29).zero) 0 [iD n]) 1 [iD (hiZ s), uZ (loZ s)]) 7 (hR h) = cR ⟨n, s, 0, 0, 0, 0, h⟩ := by
  rw [zeC]
  exact set_hh (n := n) (s := s) (mn := 0) (mx := 0) (ce := 0) (po := 0) (h := z65) rfl hh
theorem map_lR_get {l : List Int} {k : Nat} {x : Int} (h : l[k]? = some x) : (l.map lR)[k]? = some (lR x) := map_get h
set_option maxHeartbeats 4000000 in
theorem fold_sat_c (l : List Int) (hl : ∀ z ∈ l, in64 z) (hn : l.length ≤ 60000) : Sat Try.prog 10 [.d (lD l)] [] (.d (cD (foldC l))) [] := by
  have hm : (l.map lR).length = l.length := List.length_map _
  have s1 := wsum_sat l hl hn
  have o1 := of_sat l hl (by omega)
  have hh : (histL l).length = 65 := histL_len l
  have ef : foldC l = ⟨l.length, l.sum, mmin l, mmax l, 0, 0, histL l⟩ := rfl
  rw [ef]
  generalize histL l = h at *
  generalize l.sum = s at *
  refine sat_of_vc (T := tiOf Try.prog) (E := E0) Try.func10 rfl rfl hE0 hm0 rfl ?_
  conv => whnf
  iterate 2
    repeat (any_goals (first
      | exact True.intro
      | (refine And.intro (whole_len s69 hh) ?_; conv => whnf)
      | (refine ⟨_, build_cell hh, ?_⟩; conv => whnf)
      | (refine ⟨_, drop_id, ?_⟩; conv => whnf)
      | (refine ⟨_, _, at_n, ?_⟩; conv => whnf)
      | (refine ⟨_, _, at_hi, ?_⟩; conv => whnf)
      | (refine ⟨_, _, at_lo, ?_⟩; conv => whnf)
      | (refine ⟨_, _, at_mn, ?_⟩; conv => whnf)
      | (refine ⟨_, _, at_mx, ?_⟩; conv => whnf)
      | (refine ⟨_, _, at_ce, ?_⟩; conv => whnf)
      | (refine ⟨_, _, at_po, ?_⟩; conv => whnf)
      | (refine ⟨_, whole_z sC, clenz sC, ?_⟩; conv => whnf)
      | (refine ⟨_, setzC, ?_⟩; conv => whnf)
      | (refine And.intro (clenz sC) ?_; conv => whnf)
      | (refine And.intro fitzC ?_; conv => whnf)
      | (refine ⟨_, whole_cell sC hh, clen sC hh, ?_⟩; conv => whnf)
      | (refine And.intro (clen sC hh) ?_; conv => whnf)
      | (refine And.intro (fitC hh) ?_; conv => whnf)
      | (refine ⟨_, setC hh, ?_⟩; conv => whnf)
      | (refine ⟨_, whole_z sF, clenz sF, ?_⟩; conv => whnf)
      | (refine ⟨_, setzF, ?_⟩; conv => whnf)
      | (refine And.intro (clenz sF) ?_; conv => whnf)
      | (refine And.intro fitzF ?_; conv => whnf)
      | (refine ⟨_, whole_cell sF hh, clen sF hh, ?_⟩; conv => whnf)
      | (refine And.intro (clen sF hh) ?_; conv => whnf)
      | (refine And.intro (fitF hh) ?_; conv => whnf)
      | (refine ⟨_, setF hh, ?_⟩; conv => whnf)
      | (refine And.intro (fit1 hh (by decide)) ?_; conv => whnf)
      | (refine And.intro (fit1 rfl (by decide)) ?_; conv => whnf)
      | (refine ⟨_, sum_cell s25, rfl, ?_⟩; conv => whnf)
      | (refine ⟨_, set_n _, ?_⟩; conv => whnf)
      | (refine ⟨_, set_mn _, ?_⟩; conv => whnf)
      | (refine ⟨_, set_mx _, ?_⟩; conv => whnf)
      | (refine ⟨_, set_ce _, ?_⟩; conv => whnf)
      | (refine ⟨_, set_po _, ?_⟩; conv => whnf)
      | (refine ⟨_, set_s _, ?_⟩; conv => whnf)
      | (refine ⟨_, set_hi _, ?_⟩; conv => whnf)
      | (refine ⟨_, set_lo _, ?_⟩; conv => whnf)
      | (refine And.intro (fun _ => ?_) tf; conv => whnf)
      | (refine And.intro ft (fun _ => ?_); conv => whnf)
      | (refine And.intro (by kernel_rfl) ?_; conv => whnf)
      | (refine And.intro (by decide) ?_; conv => whnf)
      | (refine And.intro (fun _ => ?_) (fun h => absurd h (by decide)); conv => whnf)
      | (refine And.intro (fun h => absurd h (by decide)) (fun _ => ?_); conv => whnf)
      | (refine And.intro (fun _ => ?_) (fun _ => ?_) <;> conv => whnf)
      | (refine ⟨_, _, s1.pu rfl rfl, ?_⟩; conv => whnf)
      | (refine ⟨_, _, o1.pu rfl rfl, ?_⟩; conv => whnf)))
    all_goals try (exfalso; simp only [decide_eq_true_eq, decide_eq_false_iff_not, Bool.not_eq_true', Bool.not_eq_false', Bool.not_eq_true, Bool.not_eq_false, beq_iff_eq, bne_iff_ne, beq_eq_false_iff_ne, bne_eq_false_iff_eq, ne_eq, Decidable.not_not] at *; first | omega | contradiction | (simp_all; done) | (simp_all; omega))
    all_goals try (refine Or.inl ?_; conv => whnf)
  refine ⟨Nat × Int × Int, fun y => y.1 ≤ l.length ∧ y.2.1 = mmin (l.take y.1) ∧ y.2.2 = mmax (l.take y.1), fun y => ([(15, iA y.1), (14, iA (l.map lR).length), (13, .d (lD l)), (3, .ptr 1 0), (2, .ptr 0 0)], [.row (cR zC), .row (cR ⟨l.length, s, y.2.1, y.2.2, 0, 0, h⟩)]), fun y => l.length - y.1, ⟨(0, 0, 0), ⟨Nat.zero_le _, rfl, rfl⟩, ?_⟩, ?_⟩
  · all_goals refine ⟨[], ?_⟩
    repeat (any_goals (first | exact True.intro | exact rfl | with_reducible_and_instances rfl | exact (by kernel_rfl) | refine And.intro ?_ ?_))
    all_goals conv => whnf
    show AObj.row (cR ⟨((l.map lR).length : Nat), s, 0, 0, 0, 0, h⟩) = _
    rw [hm]
  rintro ⟨k, a, b⟩ ⟨hk, ha, hb⟩
  have hk : k ≤ l.length := hk
  have ha : a = mmin (l.take k) := ha
  have hb : b = mmax (l.take k) := hb
  conv => whnf
  by_cases hlt : k < l.length
  · have hx : l[k]? = some l[k] := List.getElem?_eq_getElem hlt
    have q1 : mmin (l.take (k + 1)) = if k = 0 then l[k] else min a l[k] := by
      rw [List.take_succ_eq_append_getElem hlt, mmin_snoc, ← ha]
      by_cases e : k = 0
      · subst e; simp
      · rw [if_neg e, if_neg]; intro q; have := congrArg List.length q; rw [List.length_take, List.length_nil] at this; omega
    have q2 : mmax (l.take (k + 1)) = if k = 0 then l[k] else max b l[k] := by
      rw [List.take_succ_eq_append_getElem hlt, mmax_snoc, ← hb]
      by_cases e : k = 0
      · subst e; simp
      · rw [if_neg e, if_neg]; intro q; have := congrArg List.length q; rw [List.length_take, List.length_nil] at this; omega
    generalize l[k] = x at hx q1 q2
    by_cases e : k = 0
    · subst e
      rw [if_pos rfl] at q1 q2
      iterate 4
        repeat (any_goals (first
          | exact True.intro
          | (refine ⟨_, drop_id, ?_⟩; conv => whnf)
          | (refine ⟨_, _, at_n, ?_⟩; conv => whnf)
          | (refine ⟨_, _, at_hi, ?_⟩; conv => whnf)
          | (refine ⟨_, _, at_lo, ?_⟩; conv => whnf)
          | (refine ⟨_, _, at_mn, ?_⟩; conv => whnf)
          | (refine ⟨_, _, at_mx, ?_⟩; conv => whnf)
          | (refine ⟨_, _, at_ce, ?_⟩; conv => whnf)
          | (refine ⟨_, _, at_po, ?_⟩; conv => whnf)
          | (refine ⟨_, whole_z sC, clenz sC, ?_⟩; conv => whnf)
          | (refine ⟨_, setzC, ?_⟩; conv => whnf)
          | (refine And.intro (clenz sC) ?_; conv => whnf)
          | (refine And.intro fitzC ?_; conv => whnf)
          | (refine ⟨_, whole_cell sC hh, clen sC hh, ?_⟩; conv => whnf)
          | (refine And.intro (clen sC hh) ?_; conv => whnf)
          | (refine And.intro (fitC hh) ?_; conv => whnf)
          | (refine ⟨_, setC hh, ?_⟩; conv => whnf)
          | (refine ⟨_, whole_z sF, clenz sF, ?_⟩; conv => whnf)
          | (refine ⟨_, setzF, ?_⟩; conv => whnf)
          | (refine And.intro (clenz sF) ?_; conv => whnf)
          | (refine And.intro fitzF ?_; conv => whnf)
          | (refine ⟨_, whole_cell sF hh, clen sF hh, ?_⟩; conv => whnf)
          | (refine And.intro (clen sF hh) ?_; conv => whnf)
          | (refine And.intro (fitF hh) ?_; conv => whnf)
          | (refine ⟨_, setF hh, ?_⟩; conv => whnf)
          | (refine And.intro (fit1 hh (by decide)) ?_; conv => whnf)
          | (refine And.intro (fit1 rfl (by decide)) ?_; conv => whnf)
          | (refine ⟨_, sum_cell s25, rfl, ?_⟩; conv => whnf)
          | (refine ⟨_, set_n _, ?_⟩; conv => whnf)
          | (refine ⟨_, set_mn _, ?_⟩; conv => whnf)
          | (refine ⟨_, set_mx _, ?_⟩; conv => whnf)
          | (refine ⟨_, set_ce _, ?_⟩; conv => whnf)
          | (refine ⟨_, set_po _, ?_⟩; conv => whnf)
          | (refine ⟨_, set_s _, ?_⟩; conv => whnf)
          | (refine ⟨_, set_hi _, ?_⟩; conv => whnf)
          | (refine ⟨_, set_lo _, ?_⟩; conv => whnf)
          | (refine ⟨0, _, rfl, map_lR_get hx, ?_⟩; conv => whnf)
          | (refine And.intro (fun _ => ?_) tf; conv => whnf)
          | (refine And.intro ft (fun _ => ?_); conv => whnf)
          | (refine And.intro (by kernel_rfl) ?_; conv => whnf)
          | (refine And.intro (by decide) ?_; conv => whnf)
          | (refine And.intro (fun _ => ?_) (fun h => absurd h (by decide)); conv => whnf)
          | (refine And.intro (fun h => absurd h (by decide)) (fun _ => ?_); conv => whnf)
          | (refine And.intro (fun _ => ?_) (fun _ => ?_) <;> conv => whnf)))
        all_goals try (exfalso; simp only [decide_eq_true_eq, decide_eq_false_iff_not, Bool.not_eq_true', Bool.not_eq_false', Bool.not_eq_true, Bool.not_eq_false, beq_iff_eq, bne_iff_ne, beq_eq_false_iff_ne, bne_eq_false_iff_eq, ne_eq, Decidable.not_not] at *; first | omega | contradiction | (simp_all; done) | (simp_all; omega))
        all_goals try (refine Or.inl ?_; conv => whnf)
      refine ⟨(0 + 1, x, x), ⟨hlt, q1.symm, q2.symm⟩, show l.length - (0 + 1) < l.length - 0 by omega, ?_⟩
      all_goals refine ⟨[], ?_⟩
      repeat (any_goals (first | exact True.intro | exact rfl | with_reducible_and_instances rfl | exact (by kernel_rfl) | refine And.intro ?_ ?_))
      all_goals conv => whnf
      show AObj.row (cR ⟨l.length, s, if x < x then x else x, if x > x then x else x, 0, 0, h⟩) = AObj.row (cR ⟨l.length, s, x, x, 0, 0, h⟩)
      rw [show (if x < x then x else x) = x by split <;> rfl]
    · rw [if_neg e] at q1 q2
      iterate 4
        repeat (any_goals (first
          | exact True.intro
          | (refine ⟨_, drop_id, ?_⟩; conv => whnf)
          | (refine ⟨_, _, at_n, ?_⟩; conv => whnf)
          | (refine ⟨_, _, at_hi, ?_⟩; conv => whnf)
          | (refine ⟨_, _, at_lo, ?_⟩; conv => whnf)
          | (refine ⟨_, _, at_mn, ?_⟩; conv => whnf)
          | (refine ⟨_, _, at_mx, ?_⟩; conv => whnf)
          | (refine ⟨_, _, at_ce, ?_⟩; conv => whnf)
          | (refine ⟨_, _, at_po, ?_⟩; conv => whnf)
          | (refine ⟨_, whole_z sC, clenz sC, ?_⟩; conv => whnf)
          | (refine ⟨_, setzC, ?_⟩; conv => whnf)
          | (refine And.intro (clenz sC) ?_; conv => whnf)
          | (refine And.intro fitzC ?_; conv => whnf)
          | (refine ⟨_, whole_cell sC hh, clen sC hh, ?_⟩; conv => whnf)
          | (refine And.intro (clen sC hh) ?_; conv => whnf)
          | (refine And.intro (fitC hh) ?_; conv => whnf)
          | (refine ⟨_, setC hh, ?_⟩; conv => whnf)
          | (refine ⟨_, whole_z sF, clenz sF, ?_⟩; conv => whnf)
          | (refine ⟨_, setzF, ?_⟩; conv => whnf)
          | (refine And.intro (clenz sF) ?_; conv => whnf)
          | (refine And.intro fitzF ?_; conv => whnf)
          | (refine ⟨_, whole_cell sF hh, clen sF hh, ?_⟩; conv => whnf)
          | (refine And.intro (clen sF hh) ?_; conv => whnf)
          | (refine And.intro (fitF hh) ?_; conv => whnf)
          | (refine ⟨_, setF hh, ?_⟩; conv => whnf)
          | (refine And.intro (fit1 hh (by decide)) ?_; conv => whnf)
          | (refine And.intro (fit1 rfl (by decide)) ?_; conv => whnf)
          | (refine ⟨_, sum_cell s25, rfl, ?_⟩; conv => whnf)
          | (refine ⟨_, set_n _, ?_⟩; conv => whnf)
          | (refine ⟨_, set_mn _, ?_⟩; conv => whnf)
          | (refine ⟨_, set_mx _, ?_⟩; conv => whnf)
          | (refine ⟨_, set_ce _, ?_⟩; conv => whnf)
          | (refine ⟨_, set_po _, ?_⟩; conv => whnf)
          | (refine ⟨_, set_s _, ?_⟩; conv => whnf)
          | (refine ⟨_, set_hi _, ?_⟩; conv => whnf)
          | (refine ⟨_, set_lo _, ?_⟩; conv => whnf)
          | (refine ⟨k, _, rfl, map_lR_get hx, ?_⟩; conv => whnf)
          | (refine And.intro (fun _ => ?_) tf; conv => whnf)
          | (refine And.intro ft (fun _ => ?_); conv => whnf)
          | (refine And.intro (by kernel_rfl) ?_; conv => whnf)
          | (refine And.intro (by decide) ?_; conv => whnf)
          | (refine And.intro (fun _ => ?_) (fun h => absurd h (by decide)); conv => whnf)
          | (refine And.intro (fun h => absurd h (by decide)) (fun _ => ?_); conv => whnf)
          | (refine And.intro (fun _ => ?_) (fun _ => ?_) <;> conv => whnf)))
        all_goals try (exfalso; simp only [decide_eq_true_eq, decide_eq_false_iff_not, Bool.not_eq_true', Bool.not_eq_false', Bool.not_eq_true, Bool.not_eq_false, beq_iff_eq, bne_iff_ne, beq_eq_false_iff_ne, bne_eq_false_iff_eq, ne_eq, Decidable.not_not] at *; first | omega | contradiction | (simp_all; done) | (simp_all; omega))
        all_goals try (refine Or.inl ?_; conv => whnf)
      refine ⟨(k + 1, min a x, max b x), ⟨hlt, q1.symm, q2.symm⟩, show l.length - (k + 1) < l.length - k by omega, ?_⟩
      all_goals refine ⟨[], ?_⟩
      repeat (any_goals (first | exact True.intro | exact rfl | with_reducible_and_instances rfl | exact (by kernel_rfl) | refine And.intro ?_ ?_))
      all_goals conv => whnf
      · exact wk1 (by omega)
      · show AObj.row (cR ⟨l.length, s, if x < a then x else a, if x > b then x else b, 0, 0, h⟩) = AObj.row (cR ⟨l.length, s, min a x, max b x, 0, 0, h⟩)
        rw [min_if, max_if]
  · have hke : k = l.length := by omega
    subst hke
    rw [List.take_of_length_le (by omega)] at ha hb
    iterate 3
      repeat (any_goals (first
        | exact True.intro
        | (refine ⟨_, drop_id, ?_⟩; conv => whnf)
        | (refine ⟨_, _, at_n, ?_⟩; conv => whnf)
        | (refine ⟨_, _, at_hi, ?_⟩; conv => whnf)
        | (refine ⟨_, _, at_lo, ?_⟩; conv => whnf)
        | (refine ⟨_, _, at_mn, ?_⟩; conv => whnf)
        | (refine ⟨_, _, at_mx, ?_⟩; conv => whnf)
        | (refine ⟨_, _, at_ce, ?_⟩; conv => whnf)
        | (refine ⟨_, _, at_po, ?_⟩; conv => whnf)
        | (refine ⟨_, whole_z sC, clenz sC, ?_⟩; conv => whnf)
        | (refine ⟨_, setzC, ?_⟩; conv => whnf)
        | (refine And.intro (clenz sC) ?_; conv => whnf)
        | (refine And.intro fitzC ?_; conv => whnf)
        | (refine ⟨_, whole_cell sC hh, clen sC hh, ?_⟩; conv => whnf)
        | (refine And.intro (clen sC hh) ?_; conv => whnf)
        | (refine And.intro (fitC hh) ?_; conv => whnf)
        | (refine ⟨_, setC hh, ?_⟩; conv => whnf)
        | (refine ⟨_, whole_z sF, clenz sF, ?_⟩; conv => whnf)
        | (refine ⟨_, setzF, ?_⟩; conv => whnf)
        | (refine And.intro (clenz sF) ?_; conv => whnf)
        | (refine And.intro fitzF ?_; conv => whnf)
        | (refine ⟨_, whole_cell sF hh, clen sF hh, ?_⟩; conv => whnf)
        | (refine And.intro (clen sF hh) ?_; conv => whnf)
        | (refine And.intro (fitF hh) ?_; conv => whnf)
        | (refine ⟨_, setF hh, ?_⟩; conv => whnf)
        | (refine And.intro (fit1 hh (by decide)) ?_; conv => whnf)
        | (refine And.intro (fit1 rfl (by decide)) ?_; conv => whnf)
        | (refine ⟨_, sum_cell s25, rfl, ?_⟩; conv => whnf)
        | (refine ⟨_, set_n _, ?_⟩; conv => whnf)
        | (refine ⟨_, set_mn _, ?_⟩; conv => whnf)
        | (refine ⟨_, set_mx _, ?_⟩; conv => whnf)
        | (refine ⟨_, set_ce _, ?_⟩; conv => whnf)
        | (refine ⟨_, set_po _, ?_⟩; conv => whnf)
        | (refine ⟨_, set_s _, ?_⟩; conv => whnf)
        | (refine ⟨_, set_hi _, ?_⟩; conv => whnf)
        | (refine ⟨_, set_lo _, ?_⟩; conv => whnf)
        | (refine And.intro (fun _ => ?_) tf; conv => whnf)
        | (refine And.intro ft (fun _ => ?_); conv => whnf)
        | (refine And.intro (by kernel_rfl) ?_; conv => whnf)
        | (refine And.intro (by decide) ?_; conv => whnf)
        | (refine And.intro (fun _ => ?_) (fun h => absurd h (by decide)); conv => whnf)
        | (refine And.intro (fun h => absurd h (by decide)) (fun _ => ?_); conv => whnf)
        | (refine And.intro (fun _ => ?_) (fun _ => ?_) <;> conv => whnf)))
      all_goals try (exfalso; simp only [decide_eq_true_eq, decide_eq_false_iff_not, Bool.not_eq_true', Bool.not_eq_false', Bool.not_eq_true, Bool.not_eq_false, beq_iff_eq, bne_iff_ne, beq_eq_false_iff_ne, bne_eq_false_iff_eq, ne_eq, Decidable.not_not] at *; first | omega | contradiction | (simp_all; done) | (simp_all; omega))
      all_goals try (refine Or.inl ?_; conv => whnf)
    rw [← ha, ← hb]
    all_goals refine ⟨[], ?_⟩
    repeat (any_goals (first | exact True.intro | exact rfl | with_reducible_and_instances rfl | exact (by kernel_rfl) | refine And.intro ?_ ?_))
    all_goals conv => whnf
end Go.Proofs.Ytbjmdnemeidpjaa
/- Arrays and structs of numbers and bools, however deep, are compared. No program is named here. -/
namespace Go.Proofs.Ytbjmdnemeidpjaa
set_option linter.unusedSimpArgs false
set_option linter.unusedVariables false
open Go.RowKit
set_option linter.unusedSectionVars false
/-- What a cell holds: a bool, or a number of a kind. -/
abbrev Kd := Option IntKind
def okV : Kd → Value → Prop
  | none, v => ∃ b, v = .bool b
  | some q, v => ∃ z, v = .int q z ∧ (Lit.int q z).wf = true
def okL : List Kd → List Value → Prop
  | [], vs => vs = []
  | k :: ks, vs => ∃ v r, vs = v :: r ∧ okV k v ∧ okL ks r
def litV : Value → Lit
  | .bool b => .bool b
  | .int q z => .int q z
  | _ => .bool false
theorem okL_len : ∀ {ks : List Kd} {vs : List Value}, okL ks vs → vs.length = ks.length
  | [], _, h => by cases h; rfl
  | _ :: _, _, ⟨_, _, rfl, _, h⟩ => by simp [okL_len h]
theorem okL_app : ∀ {las bs : List Kd} {vs : List Value}, okL (las ++ bs) vs → ∃ x y, vs = x ++ y ∧ okL las x ∧ okL bs y
  | [], _, vs, h => ⟨[], vs, rfl, rfl, h⟩
  | _ :: _, _, _, ⟨v, r, rfl, h1, h⟩ => by
    obtain ⟨x, y, rfl, h2, h3⟩ := okL_app h
    exact ⟨v :: x, y, rfl, ⟨v, x, rfl, h1, h2⟩, h3⟩
theorem okL_join : ∀ {las bs : List Kd} {x y : List Value}, okL las x → okL bs y → okL (las ++ bs) (x ++ y)
  | [], _, _, _, h, h' => by cases h; exact h'
  | _ :: _, _, _, _, ⟨v, r, rfl, h1, h⟩, h' => ⟨v, _, rfl, h1, okL_join h h'⟩
theorem litV_inj : ∀ {ks : List Kd} {us vs : List Value}, okL ks us → okL ks vs → (us.map litV = vs.map litV ↔ us = vs)
  | [], _, _, h, h' => by cases h; cases h'; simp
  | none :: ks, _, _, ⟨_, r, rfl, ⟨b, rfl⟩, h⟩, ⟨_, r', rfl, ⟨b', rfl⟩, h'⟩ => by
    simp [litV, litV_inj h h']
  | some q :: ks, _, _, ⟨_, r, rfl, ⟨z, rfl, _⟩, h⟩, ⟨_, r', rfl, ⟨z', rfl, _⟩, h'⟩ => by
    simp [litV, litV_inj h h']
section
variable {P : Program} {L : List AObj} {ty n : Nat} {x y : Operand} {t t' : TypeId}
def fieldsK (P : Program) (k : TypeId → Option (List Kd)) : List Field → Nat → Option (List Kd)
  | [], _ => some []
  | f :: fs, o => match Nat.beq f.offset o, k f.type with
    | true, some a => (match Nat.beq a.length (P.cellsOf f.type), fieldsK P k fs (o + a.length) with
      | true, some b => some (a ++ b)
      | _, _ => none)
    | _, _ => none
def kinds (P : Program) : Nat → TypeId → Option (List Kd)
  | 0, _ => none
  | m + 1, t => match P.underlying t with
    | some .bool => some [none]
    | some (.int q) => some [some q]
    | some (.array n e) => (match kinds P m e with
      | some ks => if ks.length = P.cellsOf e ∧ n * ks.length = P.cellsOf t then some (List.replicate n ks).flatten else none
      | none => none)
    | some (.struct fs) => (match fieldsK P (kinds P m) fs.toList 0 with
      | some ks => if ks.length = P.cellsOf t ∧ fs.all (·.name != "_") = true then some ks else none
      | none => none)
    | _ => none
theorem fieldsK_lits {k : TypeId → Option (List Kd)} {K : TypeId → List Value → Option (List Lit)} (hk : ∀ t ks us, k t = some ks → okL ks us → K t us = some (us.map litV)) (vs : List Value) : ∀ (fs : List Field) (o : Nat) (ks : List Kd), fieldsK P k fs o = some ks → okL ks (vs.drop o) →
    ∃ las, fs.mapM (fun f => K f.type ((vs.drop f.offset).take (P.cellsOf f.type))) = some las ∧ las.flatten = (vs.drop o).map litV
  | [], o, ks, h, hv => by
    have h : some [] = some ks := h
    cases h
    have hv : vs.drop o = [] := hv
    exact ⟨[], rfl, by rw [hv]; rfl⟩
  | f :: fs, o, ks, h, hv => by
    unfold fieldsK at h
    split at h
    · rename_i a h1 h2
      have h1 := Nat.eq_of_beq_eq_true h1
      split at h
      · rename_i b h3 h4
        have h3 := Nat.eq_of_beq_eq_true h3
        cases h
        obtain ⟨u, w, e, hu, hw⟩ := okL_app hv
        have hul := okL_len hu
        have e1 : (vs.drop f.offset).take (P.cellsOf f.type) = u := by rw [h1, e, List.take_left' (by omega)]
        have e2 : vs.drop (o + a.length) = w := by rw [← List.drop_drop, e, List.drop_left' hul]
        obtain ⟨las, g1, g2⟩ := fieldsK_lits hk vs fs _ b h4 (by rw [e2]; exact hw)
        refine ⟨u.map litV :: las, ?_, ?_⟩
        · rw [List.mapM_cons, e1, hk _ _ _ h2 hu, g1]; rfl
        · rw [List.flatten_cons, g2, e2, e, List.map_append]
      · cases h
    · cases h
theorem array_lits {ks : List Kd} {c : Nat} {K : List Value → Option (List Lit)} (hK : ∀ us, okL ks us → K us = some (us.map litV)) (hc : ks.length = c) (vs : List Value) : ∀ (n s : Nat), okL (List.replicate n ks).flatten (vs.drop (s * c)) →
    ∃ las, (List.range' s n).mapM (fun i => K ((vs.drop (i * c)).take c)) = some las ∧ las.flatten = (vs.drop (s * c)).map litV
  | 0, s, h => by
    have h : vs.drop (s * c) = [] := h
    exact ⟨[], rfl, by rw [h]; rfl⟩
  | n + 1, s, h => by
    rw [List.replicate_succ, List.flatten_cons] at h
    obtain ⟨u, w, e, hu, hw⟩ := okL_app h
    have hul := okL_len hu
    have e1 : (vs.drop (s * c)).take c = u := by rw [e, List.take_left' (by omega)]
    have e2 : vs.drop ((s + 1) * c) = w := by rw [Nat.add_mul, Nat.one_mul, ← List.drop_drop, e, List.drop_left' (by omega)]
    obtain ⟨las, g1, g2⟩ := array_lits hK hc vs n (s + 1) (by rw [e2]; exact hw)
    refine ⟨u.map litV :: las, ?_, ?_⟩
    · rw [List.range'_succ, List.mapM_cons, e1, hK _ hu, g1]; rfl
    · rw [List.flatten_cons, g2, e2, e, List.map_append]
theorem kinds_lits : ∀ (m : Nat) (t : TypeId) (ks : List Kd) (us : List Value), kinds P m t = some ks → okL ks us → P.keyLits m t us = some (us.map litV)
  | 0, _, _, _, h, _ => by cases h
  | m + 1, t, ks, us, h, hu => by
    unfold kinds at h
    have hl := okL_len hu
    split at h
    · rename_i hy
      cases h
      obtain ⟨v, r, rfl, ⟨b, rfl⟩, hr⟩ := hu
      have hr : r = [] := hr
      subst hr
      simp [Program.keyLits, hy, litV]
    · rename_i q hy
      cases h
      obtain ⟨v, r, rfl, ⟨z, rfl, hz⟩, hr⟩ := hu
      have hr : r = [] := hr
      subst hr
      simp [Program.keyLits, hy, litV, hz]
    · rename_i n e hy
      split at h
      · rename_i ks0 hk0
        split at h
        · rename_i hc
          cases h
          have hlen : (List.replicate n ks0).flatten.length = n * ks0.length := by simp
          unfold Program.keyLits
          rw [hy]
          have := array_lits (K := P.keyLits m e) (fun us hu => kinds_lits m e ks0 us hk0 hu) hc.1 us n 0 (by simpa using hu)
          obtain ⟨las, g1, g2⟩ := this
          simp only []
          rw [if_pos (by rw [hl, hlen]; exact hc.2), List.range_eq_range', g1]
          simp [g2]
        · cases h
      · cases h
    · rename_i fs hy
      split at h
      · rename_i ks0 hk0
        split at h
        · rename_i hc
          cases h
          unfold Program.keyLits
          rw [hy]
          obtain ⟨las, g1, g2⟩ := fieldsK_lits (K := P.keyLits m) (fun t ks us h1 h2 => kinds_lits m t ks us h1 h2) us fs.toList 0 ks hk0 (by simpa using hu)
          simp only []
          rw [if_pos ⟨by rw [hl]; exact hc.1, hc.2⟩, g1]
          simp [g2]
        · cases h
      · cases h
    · cases h
def wideT (P : Program) (t : TypeId) : Bool := match P.underlying t with | some (.array _ _) => true | some (.struct _) => true | _ => false
def scB (P : Program) (t : TypeId) (ks : List Kd) : Bool := P.keyTypeAt 8 t && wideT P t && !P.eqGuardType P.depth t && decide (kinds P 8 t = some ks) && Nat.beq ks.length (P.cellsOf t)
theorem formed_wide {us : List Value} (h : wideT P t = true) (hl : us.length = P.cellsOf t) : (Value.agg us.toArray).formed P t = true := by
  unfold wideT at h
  split at h
  · rename_i hy; simp [Value.formed, hy, hl]
  · rename_i hy; simp [Value.formed, hy, hl]
  · cases h
theorem run_scalars {ks : List Kd} (h : scB P t ks = true) {us vs : List Value} (hu : okL ks us) (hv : okL ks vs) {b : Bool} (hb : b = true ↔ us = vs) (w : World) : (Op.equalIn 10000 t (.agg us.toArray) (.agg vs.toArray)).run P w = .ok b w := by
  unfold scB at h
  simp only [Bool.and_eq_true, Bool.not_eq_true', decide_eq_true_eq] at h
  obtain ⟨⟨⟨⟨h1, h2⟩, h3⟩, h4⟩, h5⟩ := h
  have h5 := Nat.eq_of_beq_eq_true h5
  have hE : EqAt P 10000 t := run_equalIn_deep 9992 8 t h1
  obtain ⟨r, hr, hiff⟩ := hE w 8 8 _ _ _ _ (formed_wide (us := us) h2 (by rw [okL_len hu, h5])) (formed_wide (us := vs) h2 (by rw [okL_len hv, h5])) (kinds_lits 8 t ks _ h4 (by simpa [Value.cells] using hu)) (kinds_lits 8 t ks _ h4 (by simpa [Value.cells] using hv))
  rw [hr]
  have e : r = b := by
    rw [Bool.eq_iff_iff, hiff, hb]
    simpa [Value.cells] using litV_inj hu hv
  rw [e]
theorem eqSc {ks : List Kd} (h : scB P t ks = true) {xs ys : List D} {us vs : List Value} (fx : FlatVs xs us) (fy : FlatVs ys vs) (hu : okL ks us) (hv : okL ks vs) {b : Bool} (hb : b = true ↔ us = vs) :
    Does P (.binOp .eql t x y t') ty L n [.d (.agg xs), .d (.agg ys)] e0 (.d (.v (.bool b))) :=
  does_ra2 rfl fun o w F ρ ev u v ho h1 h2 hu' hv' => by
    have := FlatW.eq (.d (.agg fx)) hu'
    subst this
    have := FlatW.eq (.d (.agg fy)) hv'
    subst this
    have hg : P.eqGuardType P.depth t = false := by
      unfold scB at h
      simp only [Bool.and_eq_true, Bool.not_eq_true'] at h
      exact h.1.1.2
    exact exec_eq ho h1 h2 (run_eqGuard_agg w .eql _ _ _ _ _ hg) (by rw [run_eql_struct, run_scalars h hu hv hb]; rfl)
theorem neSc {ks : List Kd} (h : scB P t ks = true) {xs ys : List D} {us vs : List Value} (fx : FlatVs xs us) (fy : FlatVs ys vs) (hu : okL ks us) (hv : okL ks vs) {b : Bool} (hb : b = true ↔ us = vs) :
    Does P (.binOp .neq t x y t') ty L n [.d (.agg xs), .d (.agg ys)] e0 (.d (.v (.bool (!b)))) :=
  does_ra2 rfl fun o w F ρ ev u v ho h1 h2 hu' hv' => by
    have := FlatW.eq (.d (.agg fx)) hu'
    subst this
    have := FlatW.eq (.d (.agg fy)) hv'
    subst this
    have hg : P.eqGuardType P.depth t = false := by
      unfold scB at h
      simp only [Bool.and_eq_true, Bool.not_eq_true'] at h
      exact h.1.1.2
    exact exec_eq ho h1 h2 (run_eqGuard_agg w .neq _ _ _ _ _ hg) (by rw [run_neq_struct, run_scalars h hu hv hb]; rfl)
end
end Go.Proofs.Ytbjmdnemeidpjaa
/- Cells are compared; Merge. -/
namespace Go.Proofs.Ytbjmdnemeidpjaa
set_option linter.unusedSimpArgs false
set_option linter.unusedVariables false
open Go.RowKit
set_option maxRecDepth 100000
def uv (z : Int) : Value := .int .u64 z
def clV (c : Cel) : List Value := i64v c.n :: i64v (hiZ c.s) :: uv (loZ c.s) :: i64v c.mn :: i64v c.mx :: i64v c.ce :: i64v c.po :: c.h.map i64v
theorem cR_flat (c : Cel) : FlatVs (cR c) (clV c) := .cons (.v _) rfl (.cons (.v _) rfl (.cons (.v _) rfl (.cons (.v _) rfl (.cons (.v _) rfl (.cons (.v _) rfl (.cons (.v _) rfl (hR_flat c.h)))))))
theorem cD_flat (c : Cel) : FlatV (cD c) (.agg (clV c).toArray) := .agg (cR_flat c)
theorem wf64 {z : Int} (h : in64 z) : (Lit.int .i64 z).wf = true := by
  unfold in64 at h
  simp only [Lit.wf, Bool.and_eq_true, decide_eq_true_eq]
  exact ⟨h.1, h.2⟩
theorem wfu {z : Int} (h : 0 ≤ z ∧ z < word) : (Lit.int .u64 z).wf = true := by
  unfold word at h
  simp only [Lit.wf, Bool.and_eq_true, decide_eq_true_eq]
  exact ⟨h.1, Int.le_of_lt_add_one h.2⟩
abbrev kC : List Kd := some .i64 :: some .i64 :: some .u64 :: some .i64 :: some .i64 :: some .i64 :: some .i64 :: List.replicate 65 (some .i64)
theorem okL_longs : ∀ {l : List Int} {n : Nat}, l.length = n → (∀ z ∈ l, in64 z) → okL (List.replicate n (some .i64)) (l.map i64v)
  | [], 0, _, _ => rfl
  | z :: l, n + 1, h, hx => ⟨_, _, rfl, ⟨z, rfl, wf64 (hx z (List.mem_cons_self ..))⟩, okL_longs (by simpa using h) fun y hy => hx y (List.mem_cons_of_mem _ hy)⟩
  | [], n + 1, h, _ => by simp at h
  | _ :: _, 0, h, _ => by simp at h
theorem clV_ok {c : Cel} (h : CelOK c) : okL kC (clV c) :=
  ⟨_, _, rfl, ⟨_, rfl, wf64 h.n⟩, _, _, rfl, ⟨_, rfl, wf64 h.s⟩, _, _, rfl, ⟨_, rfl, wfu (by unfold loZ word; omega)⟩, _, _, rfl, ⟨_, rfl, wf64 h.mn⟩, _, _, rfl, ⟨_, rfl, wf64 h.mx⟩, _, _, rfl, ⟨_, rfl, wf64 h.ce⟩, _, _, rfl, ⟨_, rfl, wf64 h.po⟩, okL_longs h.hl h.hx⟩
theorem i64v_inj {a b : Int} (h : i64v a = i64v b) : a = b := by unfold i64v at h; injection h
theorem clV_inj (c d : Cel) : decide (c = d) = true ↔ clV c = clV d := by
  rw [decide_eq_true_eq]
  refine ⟨fun h => by rw [h], fun h => ?_⟩
  unfold clV uv at h
  simp only [List.cons.injEq, Value.int.injEq, true_and] at h
  obtain ⟨h1, h2, h3, h4, h5, h6, h7, h8⟩ := h
  refine Cel.ext' (i64v_inj h1) ?_ (i64v_inj h4) (i64v_inj h5) (i64v_inj h6) (i64v_inj h7) ?_
  · rw [← wide_split c.s, ← wide_split d.s, i64v_inj h2, h3]
  · exact (List.map_inj_right (fun a b q => i64v_inj q)).1 h8
section
variable {L : List AObj} {ty n : Nat} {x y : Operand} {t' : TypeId} {c d : Cel}
theorem scC : scB Try.prog 29 kC = true := by kernel_rfl
theorem scF : scB Try.prog 32 kC = true := by kernel_rfl
theorem eqCC (hc : CelOK c) (hd : CelOK d) : Does Try.prog (.binOp .eql 29 x y t') ty L n [.d (cD c), .d (cD d)] e0 (bA (decide (c = d))) := eqSc scC (cR_flat c) (cR_flat d) (clV_ok hc) (clV_ok hd) (clV_inj c d)
theorem neCC (hc : CelOK c) (hd : CelOK d) : Does Try.prog (.binOp .neq 29 x y t') ty L n [.d (cD c), .d (cD d)] e0 (bA (!decide (c = d))) := neSc scC (cR_flat c) (cR_flat d) (clV_ok hc) (clV_ok hd) (clV_inj c d)
theorem eqFF (hc : CelOK c) (hd : CelOK d) : Does Try.prog (.binOp .eql 32 x y t') ty L n [.d (cD c), .d (cD d)] e0 (bA (decide (c = d))) := eqSc scF (cR_flat c) (cR_flat d) (clV_ok hc) (clV_ok hd) (clV_inj c d)
theorem neFF (hc : CelOK c) (hd : CelOK d) : Does Try.prog (.binOp .neq 32 x y t') ty L n [.d (cD c), .d (cD d)] e0 (bA (!decide (c = d))) := neSc scF (cR_flat c) (cR_flat d) (clV_ok hc) (clV_ok hd) (clV_inj c d)
abbrev bD (b : Bool) : D := .v (.bool b)
abbrev fitB (a b c d : Bool) : List D := [bD a, bD b, bD c, bD d]
theorem fitB_flat (a b c d : Bool) : FlatVs (fitB a b c d) [.bool a, .bool b, .bool c, .bool d] := by repeat constructor
theorem neFit (a b c d : Bool) : Does Try.prog (.binOp .neq 96 x y t') ty L n [.d (.agg (fitB a b c d)), .d (.agg (fitB true true true true))] e0 (bA (!(a && b && c && d))) :=
  neSc (ks := [none, none, none, none]) (by kernel_rfl) (fitB_flat ..) (fitB_flat ..) ⟨_, _, rfl, ⟨_, rfl⟩, _, _, rfl, ⟨_, rfl⟩, _, _, rfl, ⟨_, rfl⟩, _, _, rfl, ⟨_, rfl⟩, rfl⟩ ⟨_, _, rfl, ⟨_, rfl⟩, _, _, rfl, ⟨_, rfl⟩, _, _, rfl, ⟨_, rfl⟩, _, _, rfl, ⟨_, rfl⟩, rfl⟩
    (by cases a <;> cases b <;> cases c <;> cases d <;> simp)
end
end Go.Proofs.Ytbjmdnemeidpjaa
/- The document's cells: Plus, Fold. -/
namespace Go.Proofs.Ytbjmdnemeidpjaa
set_option linter.unusedSimpArgs false
set_option linter.unusedVariables false
open Go.RowKit
set_option maxRecDepth 100000
theorem plusL_sat (a b : Int) (ha : in64 a) (hb : in64 b) : Sat Try.prog 88 [iA a, iA b] [] (.tup [iA (toldZ (a + b)).1, iA (toldZ (a + b)).2]) [] := by
  have o1 := of_num a ha
  have o2 := of_num b hb
  have a1 := add_few (k := 4) (by omega) (few_i64 ha) (few_i64 hb)
  have t1 := told_num (a + b) (by have := few_len (add_few_out (few_i64 ha) (few_i64 hb)); omega)
  refine sat_of_vc (T := tiOf Try.prog) (E := E0) Try.func88 rfl rfl hE0 hm0 rfl ?_
  conv => whnf
  iterate 2
    repeat (any_goals (first
      | exact True.intro
      | (refine And.intro (fun _ => ?_) tf; conv => whnf)
      | (refine And.intro ft (fun _ => ?_); conv => whnf)
      | (refine And.intro (by kernel_rfl) ?_; conv => whnf)
      | (refine And.intro (by decide) ?_; conv => whnf)
      | (refine And.intro (fun _ => ?_) (fun h => absurd h (by decide)); conv => whnf)
      | (refine And.intro (fun h => absurd h (by decide)) (fun _ => ?_); conv => whnf)
      | (refine And.intro (fun _ => ?_) (fun _ => ?_) <;> conv => whnf)
      | (refine ⟨_, _, o1.pu rfl rfl, ?_⟩; conv => whnf)
      | (refine ⟨_, _, o2.pu rfl rfl, ?_⟩; conv => whnf)
      | (refine ⟨_, _, a1.pu rfl rfl, ?_⟩; conv => whnf)
      | (refine ⟨_, _, t1.pu rfl rfl, ?_⟩; conv => whnf)))
    all_goals try (refine Or.inl ?_; conv => whnf)
  all_goals refine ⟨[], ?_⟩
  repeat (any_goals (first | exact True.intro | exact rfl | with_reducible_and_instances rfl | exact (by kernel_rfl) | refine And.intro ?_ ?_))
  all_goals conv => whnf
theorem build_refFold {n : Int} {h : List Int} (hh : h.length = 65) : sets (sets (List.map D.v (tiOf Try.prog 32).zero) 0 [iD n]) 7 (hR h) = cR ⟨n, 0, 0, 0, 0, 0, h⟩ := by
  rw [zeF]
  exact set_hh (n := n) (s := 0) (mn := 0) (mx := 0) (ce := 0) (po := 0) (h := z65) rfl hh
/-- A cell whose sum's words are written one by one. -/
theorem set_hi {n s mn mx ce po : Int} {h : List Int} (x : Int) : sets (cR ⟨n, s, mn, mx, ce, po, h⟩) (0 + 1) [iD (hiZ x)] = cR ⟨n, wideZ (hiZ x) (loZ s), mn, mx, ce, po, h⟩ := by
  obtain ⟨e1, e2⟩ := wideZ_hi (hi := hiZ x) (lo := loZ s) (by unfold loZ word; omega) (by unfold loZ word; omega)
  show (iD n :: iD (hiZ x) :: uZ (loZ s) :: iD mn :: iD mx :: iD ce :: iD po :: hR h) = cR _
  unfold cR
  rw [e1, e2]
theorem set_lo {n s mn mx ce po : Int} {h : List Int} (x : Int) : sets (cR ⟨n, s, mn, mx, ce, po, h⟩) (0 + 2) [uZ (loZ x)] = cR ⟨n, wideZ (hiZ s) (loZ x), mn, mx, ce, po, h⟩ := by
  obtain ⟨e1, e2⟩ := wideZ_hi (hi := hiZ s) (lo := loZ x) (by unfold loZ word; omega) (by unfold loZ word; omega)
  show (iD n :: iD (hiZ s) :: uZ (loZ x) :: iD mn :: iD mx :: iD ce :: iD po :: hR h) = cR _
  unfold cR
  rw [e1, e2]
theorem wideZ_two (x s : Int) : wideZ (hiZ (wideZ (hiZ x) (loZ s))) (loZ x) = x := by
  rw [(wideZ_hi (hi := hiZ x) (lo := loZ s) (by unfold loZ word; omega) (by unfold loZ word; omega)).1, wide_split]
theorem row_two {n s a b a' b' : Int} {h : List Int} (e1 : a = a') (e2 : b = b') : AObj.row (cR ⟨n, s, a, b, 0, 0, h⟩) = .row (cR ⟨n, s, a', b', 0, 0, h⟩) := by rw [e1, e2]
set_option maxHeartbeats 8000000 in
theorem refFold_sat (l : List Int) (hl : ∀ z ∈ l, in64 z) (hn : l.length ≤ 60000) : Sat Try.prog 12 [.d (lD l)] [] (.d (cD (foldC l))) [] := by
  have hm : (l.map lR).length = l.length := List.length_map _
  have t1 := total_num l hl (by omega)
  have w1 := words_num l.sum (few_mono (few_sum5 hl (by omega)) (by omega))
  rw [if_pos (show in64 (hiZ l.sum) from sum_in128 hl (by omega))] at w1
  have o1 := refOf_sat l hl (by omega)
  have hh : (histL l).length = 65 := histL_len l
  have ef : foldC l = ⟨l.length, l.sum, mmin l, mmax l, 0, 0, histL l⟩ := rfl
  rw [ef]
  generalize histL l = h at *
  generalize l.sum = s at *
  refine sat_of_vc (T := tiOf Try.prog) (E := E0) Try.func12 rfl rfl hE0 hm0 rfl ?_
  conv => whnf
  iterate 2
    repeat (any_goals (first
      | exact True.intro
      | (refine And.intro (whole_len s68 hh) ?_; conv => whnf)
      | (refine ⟨_, build_refFold hh, ?_⟩; conv => whnf)
      | (refine ⟨_, drop_id, ?_⟩; conv => whnf)
      | (refine ⟨_, _, at_n, ?_⟩; conv => whnf)
      | (refine ⟨_, _, at_hi, ?_⟩; conv => whnf)
      | (refine ⟨_, _, at_lo, ?_⟩; conv => whnf)
      | (refine ⟨_, _, at_mn, ?_⟩; conv => whnf)
      | (refine ⟨_, _, at_mx, ?_⟩; conv => whnf)
      | (refine ⟨_, _, at_ce, ?_⟩; conv => whnf)
      | (refine ⟨_, _, at_po, ?_⟩; conv => whnf)
      | (refine ⟨_, whole_z sC, clenz sC, ?_⟩; conv => whnf)
      | (refine ⟨_, setzC, ?_⟩; conv => whnf)
      | (refine And.intro (clenz sC) ?_; conv => whnf)
      | (refine And.intro fitzC ?_; conv => whnf)
      | (refine ⟨_, whole_cell sC hh, clen sC hh, ?_⟩; conv => whnf)
      | (refine And.intro (clen sC hh) ?_; conv => whnf)
      | (refine And.intro (fitC hh) ?_; conv => whnf)
      | (refine ⟨_, setC hh, ?_⟩; conv => whnf)
      | (refine ⟨_, whole_z sF, clenz sF, ?_⟩; conv => whnf)
      | (refine ⟨_, setzF, ?_⟩; conv => whnf)
      | (refine And.intro (clenz sF) ?_; conv => whnf)
      | (refine And.intro fitzF ?_; conv => whnf)
      | (refine ⟨_, whole_cell sF hh, clen sF hh, ?_⟩; conv => whnf)
      | (refine And.intro (clen sF hh) ?_; conv => whnf)
      | (refine And.intro (fitF hh) ?_; conv => whnf)
      | (refine ⟨_, setF hh, ?_⟩; conv => whnf)
      | (refine And.intro (fit1 hh (by decide)) ?_; conv => whnf)
      | (refine And.intro (fit1 rfl (by decide)) ?_; conv => whnf)
      | (refine ⟨_, sum_cell s25, rfl, ?_⟩; conv => whnf)
      | (refine ⟨_, set_n _, ?_⟩; conv => whnf)
      | (refine ⟨_, set_mn _, ?_⟩; conv => whnf)
      | (refine ⟨_, set_mx _, ?_⟩; conv => whnf)
      | (refine ⟨_, set_ce _, ?_⟩; conv => whnf)
      | (refine ⟨_, set_po _, ?_⟩; conv => whnf)
      | (refine ⟨_, set_s _, ?_⟩; conv => whnf)
      | (refine ⟨_, set_hi _, ?_⟩; conv => whnf)
      | (refine ⟨_, set_lo _, ?_⟩; conv => whnf)
      | (refine And.intro (fun _ => ?_) tf; conv => whnf)
      | (refine And.intro ft (fun _ => ?_); conv => whnf)
      | (refine And.intro (by kernel_rfl) ?_; conv => whnf)
      | (refine And.intro (by decide) ?_; conv => whnf)
      | (refine And.intro (fun _ => ?_) (fun h => absurd h (by decide)); conv => whnf)
      | (refine And.intro (fun h => absurd h (by decide)) (fun _ => ?_); conv => whnf)
      | (refine And.intro (fun _ => ?_) (fun _ => ?_) <;> conv => whnf)
      | (refine ⟨_, _, t1.pu rfl rfl, ?_⟩; conv => whnf)
      | (refine ⟨_, _, w1.pu rfl rfl, ?_⟩; conv => whnf)
      | (refine ⟨_, _, o1.pu rfl rfl, ?_⟩; conv => whnf)))
    all_goals try (refine Or.inl ?_; conv => whnf)
  refine ⟨Nat × Int × Int, fun y => y.1 ≤ l.length ∧ y.2.1 = mmin (l.take y.1) ∧ y.2.2 = mmax (l.take y.1), fun y => ([(4, iA y.1), (3, .ptr 1 0), (2, .ptr 0 0), (0, .d (lD l))], [.row (cR zC), .row (cR ⟨l.length, s, y.2.1, y.2.2, 0, 0, h⟩)]), fun y => l.length - y.1, ⟨(0, 0, 0), ⟨Nat.zero_le _, rfl, rfl⟩, ?_⟩, ?_⟩
  · all_goals refine ⟨[], ?_⟩
    repeat (any_goals (first | exact True.intro | exact rfl | with_reducible_and_instances rfl | exact (by kernel_rfl) | refine And.intro ?_ ?_))
    all_goals conv => whnf
    show AObj.row (cR ⟨((l.map lR).length : Nat), wideZ (hiZ (wideZ (hiZ s) (loZ 0))) (loZ s), 0, 0, 0, 0, h⟩) = _
    rw [hm, wideZ_two]
  rintro ⟨k, a, b⟩ ⟨hk, ha, hb⟩
  have hk : k ≤ l.length := hk
  have ha : a = mmin (l.take k) := ha
  have hb : b = mmax (l.take k) := hb
  conv => whnf
  by_cases hlt : k < l.length
  · have hx : l[k]? = some l[k] := List.getElem?_eq_getElem hlt
    have q1 : mmin (l.take (k + 1)) = if k = 0 then l[k] else min a l[k] := by
      rw [List.take_succ_eq_append_getElem hlt, mmin_snoc, ← ha]
      by_cases e : k = 0
      · subst e; simp
      · rw [if_neg e, if_neg]; intro q; have := congrArg List.length q; rw [List.length_take, List.length_nil] at this; omega
    have q2 : mmax (l.take (k + 1)) = if k = 0 then l[k] else max b l[k] := by
      rw [List.take_succ_eq_append_getElem hlt, mmax_snoc, ← hb]
      by_cases e : k = 0
      · subst e; simp
      · rw [if_neg e, if_neg]; intro q; have := congrArg List.length q; rw [List.length_take, List.length_nil] at this; omega
    generalize l[k] = x at hx q1 q2
    iterate 5
      repeat (any_goals (first
        | exact True.intro
        | (refine ⟨_, drop_id, ?_⟩; conv => whnf)
        | (refine ⟨_, _, at_n, ?_⟩; conv => whnf)
        | (refine ⟨_, _, at_hi, ?_⟩; conv => whnf)
        | (refine ⟨_, _, at_lo, ?_⟩; conv => whnf)
        | (refine ⟨_, _, at_mn, ?_⟩; conv => whnf)
        | (refine ⟨_, _, at_mx, ?_⟩; conv => whnf)
        | (refine ⟨_, _, at_ce, ?_⟩; conv => whnf)
        | (refine ⟨_, _, at_po, ?_⟩; conv => whnf)
        | (refine ⟨_, whole_z sC, clenz sC, ?_⟩; conv => whnf)
        | (refine ⟨_, setzC, ?_⟩; conv => whnf)
        | (refine And.intro (clenz sC) ?_; conv => whnf)
        | (refine And.intro fitzC ?_; conv => whnf)
        | (refine ⟨_, whole_cell sC hh, clen sC hh, ?_⟩; conv => whnf)
        | (refine And.intro (clen sC hh) ?_; conv => whnf)
        | (refine And.intro (fitC hh) ?_; conv => whnf)
        | (refine ⟨_, setC hh, ?_⟩; conv => whnf)
        | (refine ⟨_, whole_z sF, clenz sF, ?_⟩; conv => whnf)
        | (refine ⟨_, setzF, ?_⟩; conv => whnf)
        | (refine And.intro (clenz sF) ?_; conv => whnf)
        | (refine And.intro fitzF ?_; conv => whnf)
        | (refine ⟨_, whole_cell sF hh, clen sF hh, ?_⟩; conv => whnf)
        | (refine And.intro (clen sF hh) ?_; conv => whnf)
        | (refine And.intro (fitF hh) ?_; conv => whnf)
        | (refine ⟨_, setF hh, ?_⟩; conv => whnf)
        | (refine And.intro (fit1 hh (by decide)) ?_; conv => whnf)
        | (refine And.intro (fit1 rfl (by decide)) ?_; conv => whnf)
        | (refine ⟨_, sum_cell s25, rfl, ?_⟩; conv => whnf)
        | (refine ⟨_, set_n _, ?_⟩; conv => whnf)
        | (refine ⟨_, set_mn _, ?_⟩; conv => whnf)
        | (refine ⟨_, set_mx _, ?_⟩; conv => whnf)
        | (refine ⟨_, set_ce _, ?_⟩; conv => whnf)
        | (refine ⟨_, set_po _, ?_⟩; conv => whnf)
        | (refine ⟨_, set_s _, ?_⟩; conv => whnf)
        | (refine ⟨_, set_hi _, ?_⟩; conv => whnf)
        | (refine ⟨_, set_lo _, ?_⟩; conv => whnf)
        | (refine ⟨k, _, rfl, map_lR_get hx, ?_⟩; conv => whnf)
        | (refine And.intro (fun _ => ?_) tf; conv => whnf)
        | (refine And.intro ft (fun _ => ?_); conv => whnf)
        | (refine And.intro (by kernel_rfl) ?_; conv => whnf)
        | (refine And.intro (by decide) ?_; conv => whnf)
        | (refine And.intro (fun _ => ?_) (fun h => absurd h (by decide)); conv => whnf)
        | (refine And.intro (fun h => absurd h (by decide)) (fun _ => ?_); conv => whnf)
        | (refine And.intro (fun _ => ?_) (fun _ => ?_) <;> conv => whnf)))
      all_goals try (exfalso; simp only [decide_eq_true_eq, decide_eq_false_iff_not, Bool.not_eq_true', Bool.not_eq_false', Bool.not_eq_true, Bool.not_eq_false, beq_iff_eq, bne_iff_ne, beq_eq_false_iff_ne, bne_eq_false_iff_eq, ne_eq, Decidable.not_not] at *; first | omega | contradiction | (simp_all; done) | (simp_all; omega))
      all_goals try (refine Or.inl ?_; conv => whnf)
    all_goals refine ⟨(k + 1, mmin (l.take (k + 1)), mmax (l.take (k + 1))), ⟨hlt, rfl, rfl⟩, show l.length - (k + 1) < l.length - k by omega, ?_⟩
    all_goals rw [q1, q2]
    all_goals refine ⟨[], ?_⟩
    repeat (any_goals (first | exact True.intro | exact rfl | with_reducible_and_instances rfl | exact (by kernel_rfl) | refine And.intro ?_ ?_))
    all_goals conv => whnf
    all_goals first
      | exact wk1 (by omega)
      | exact row_two (by simp only [decide_eq_true_eq, decide_eq_false_iff_not, beq_iff_eq, beq_eq_false_iff_ne, ne_eq] at *; split <;> omega) (by simp only [decide_eq_true_eq, decide_eq_false_iff_not, beq_iff_eq, beq_eq_false_iff_ne, ne_eq] at *; split <;> omega)
  · have hke : k = l.length := by omega
    subst hke
    rw [List.take_of_length_le (by omega)] at ha hb
    iterate 3
      repeat (any_goals (first
        | exact True.intro
        | (refine ⟨_, drop_id, ?_⟩; conv => whnf)
        | (refine ⟨_, _, at_n, ?_⟩; conv => whnf)
        | (refine ⟨_, _, at_hi, ?_⟩; conv => whnf)
        | (refine ⟨_, _, at_lo, ?_⟩; conv => whnf)
        | (refine ⟨_, _, at_mn, ?_⟩; conv => whnf)
        | (refine ⟨_, _, at_mx, ?_⟩; conv => whnf)
        | (refine ⟨_, _, at_ce, ?_⟩; conv => whnf)
        | (refine ⟨_, _, at_po, ?_⟩; conv => whnf)
        | (refine ⟨_, whole_z sC, clenz sC, ?_⟩; conv => whnf)
        | (refine ⟨_, setzC, ?_⟩; conv => whnf)
        | (refine And.intro (clenz sC) ?_; conv => whnf)
        | (refine And.intro fitzC ?_; conv => whnf)
        | (refine ⟨_, whole_cell sC hh, clen sC hh, ?_⟩; conv => whnf)
        | (refine And.intro (clen sC hh) ?_; conv => whnf)
        | (refine And.intro (fitC hh) ?_; conv => whnf)
        | (refine ⟨_, setC hh, ?_⟩; conv => whnf)
        | (refine ⟨_, whole_z sF, clenz sF, ?_⟩; conv => whnf)
        | (refine ⟨_, setzF, ?_⟩; conv => whnf)
        | (refine And.intro (clenz sF) ?_; conv => whnf)
        | (refine And.intro fitzF ?_; conv => whnf)
        | (refine ⟨_, whole_cell sF hh, clen sF hh, ?_⟩; conv => whnf)
        | (refine And.intro (clen sF hh) ?_; conv => whnf)
        | (refine And.intro (fitF hh) ?_; conv => whnf)
        | (refine ⟨_, setF hh, ?_⟩; conv => whnf)
        | (refine And.intro (fit1 hh (by decide)) ?_; conv => whnf)
        | (refine And.intro (fit1 rfl (by decide)) ?_; conv => whnf)
        | (refine ⟨_, sum_cell s25, rfl, ?_⟩; conv => whnf)
        | (refine ⟨_, set_n _, ?_⟩; conv => whnf)
        | (refine ⟨_, set_mn _, ?_⟩; conv => whnf)
        | (refine ⟨_, set_mx _, ?_⟩; conv => whnf)
        | (refine ⟨_, set_ce _, ?_⟩; conv => whnf)
        | (refine ⟨_, set_po _, ?_⟩; conv => whnf)
        | (refine ⟨_, set_s _, ?_⟩; conv => whnf)
        | (refine ⟨_, set_hi _, ?_⟩; conv => whnf)
        | (refine ⟨_, set_lo _, ?_⟩; conv => whnf)
        | (refine And.intro (fun _ => ?_) tf; conv => whnf)
        | (refine And.intro ft (fun _ => ?_); conv => whnf)
        | (refine And.intro (by kernel_rfl) ?_; conv => whnf)
        | (refine And.intro (by decide) ?_; conv => whnf)
        | (refine And.intro (fun _ => ?_) (fun h => absurd h (by decide)); conv => whnf)
        | (refine And.intro (fun h => absurd h (by decide)) (fun _ => ?_); conv => whnf)
        | (refine And.intro (fun _ => ?_) (fun _ => ?_) <;> conv => whnf)))
      all_goals try (exfalso; simp only [decide_eq_true_eq, decide_eq_false_iff_not, Bool.not_eq_true', Bool.not_eq_false', Bool.not_eq_true, Bool.not_eq_false, beq_iff_eq, bne_iff_ne, beq_eq_false_iff_ne, bne_eq_false_iff_eq, ne_eq, Decidable.not_not] at *; first | omega | contradiction | (simp_all; done) | (simp_all; omega))
      all_goals try (refine Or.inl ?_; conv => whnf)
    rw [← ha, ← hb]
    all_goals refine ⟨[], ?_⟩
    repeat (any_goals (first | exact True.intro | exact rfl | with_reducible_and_instances rfl | exact (by kernel_rfl) | refine And.intro ?_ ?_))
    all_goals conv => whnf
end Go.Proofs.Ytbjmdnemeidpjaa
/- Merge of cells, its plain part. -/
namespace Go.Proofs.Ytbjmdnemeidpjaa
set_option linter.unusedSimpArgs false
set_option linter.unusedVariables false
open Go.RowKit
set_option maxRecDepth 100000
theorem full_succ {l : List Cel} {k : Nat} {c : Cel} (h : l[k]? = some c) : full (l.take (k + 1)) = full (l.take k) ++ (if c.n = 0 then [] else [c]) := by
  obtain ⟨hk, rfl⟩ := List.getElem?_eq_some_iff.1 h
  unfold full
  rw [List.take_succ_eq_append_getElem hk, List.filter_append]
  congr 1
  by_cases e : l[k].n = 0
  · rw [if_pos e]; simp [e]
  · rw [if_neg e]; simp [e]
theorem sumN_eq (l : List Cel) : sumBy (·.n) l = sumN l := rfl
theorem sumAt_le {l : List Cel} (hr : ∀ c ∈ l, RightC c) (hl : ∀ c ∈ l, c.h.length = 65) {k : Nat} (hk : k < 65) : sumAt (l.map (·.h)) k ≤ sumN l := by
  induction l with
  | nil => exact Int.le_refl _
  | cons c l ih =>
    have := ih (fun d hd => hr d (List.mem_cons_of_mem _ hd)) (fun d hd => hl d (List.mem_cons_of_mem _ hd))
    have h1 := (hAt_le (hr c (List.mem_cons_self ..)) (hl c (List.mem_cons_self ..)) hk).2
    unfold hAt at h1
    unfold sumAt sumN at *
    simp only [List.map_cons, List.sum_cons] at *
    omega
theorem merge_hist_fine {l : List Cel} (hr : ∀ c ∈ l, RightC c) (hl : ∀ c ∈ l, c.h.length = 65) (hn : sumN l ≤ big) : mergeE (l.map (·.h)) = 0 ∧ mergeR (l.map (·.h)) = mergeL (l.map (·.h)) := by
  refine merge_fine ?_ fun k hk => ?_
  · rw [List.all_map]
    exact List.all_eq_true.2 fun c hc => (hr c hc).ok
  · have := sumAt_le hr hl hk
    unfold big at hn
    omega
theorem fits_iff {l : List Cel} : fitsC l = (decide (sumN l ≤ 9223372036854775807) && decide (sumCe l ≤ 9223372036854775807) && decide (sumPo l ≤ 9223372036854775807) && decide (in128 (sumS l))) := by
  unfold fitsC big
  rw [Bool.eq_iff_iff]
  simp only [Bool.and_eq_true, decide_eq_true_eq, and_assoc]
theorem all_take_right {l : List Cel} {k : Nat} {c : Cel} (h : l[k]? = some c) : (l.take (k + 1)).all rightC = ((l.take k).all rightC && rightC c) := all_take_succ h
theorem ite_tup {p : Prop} [Decidable p] (a : Int) : (if p then (.tup [iA a, bA true] : AV) else .tup [iA 0, bA false]) = .tup [iA (if p then a else 0), bA (decide p)] := by
  by_cases h : p
  · rw [if_pos h, if_pos h, decide_eq_true h]
  · rw [if_neg h, if_neg h, decide_eq_false h]
theorem ite_tupW {p : Prop} [Decidable p] (a : Int) : (if p then (.tup [.d (wD a), bA true] : AV) else .tup [.d (wD 0), bA false]) = .tup [.d (wD (if p then a else 0)), bA (decide p)] := by
  by_cases h : p
  · rw [if_pos h, if_pos h, decide_eq_true h]
  · rw [if_neg h, if_neg h, decide_eq_false h]
end Go.Proofs.Ytbjmdnemeidpjaa
