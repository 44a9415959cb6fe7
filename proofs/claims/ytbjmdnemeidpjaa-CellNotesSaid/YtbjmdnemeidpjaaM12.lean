/- Parts CeG, CeH, EqS, CeI, CeJ, CeK, CdC of the proof, put together. -/
import Derived.Test.YtbjmdnemeidpjaaM11
import Derived.DeepKeys
/- Add, Fold of cells. -/
namespace Go.Proofs.Ytbjmdnemeidpjaa
set_option linter.unusedSimpArgs false
set_option linter.unusedVariables false
open Go.RowKit
set_option maxRecDepth 100000
theorem hist_fit {c : Cel} {h : List Int} (hc : c.h.length = 65) (hh : h.length = 65) : 0 + 7 + (hR h).length ≤ (cR c).length := by rw [cR_len hc, hR_len]; omega
theorem sum_fit {c : Cel} {x y : D} (hc : c.h.length = 65) : 0 + 1 + [x, y].length ≤ (cR c).length := by rw [cR_len hc]; simp
theorem min_if (m v : Int) : min m v = if v < m then v else m := by split <;> omega
theorem max_if (m v : Int) : max m v = if v > m then v else m := by split <;> omega
set_option maxHeartbeats 4000000 in
theorem add_sat_c (c : Cel) (v : Int) (hc : CelOK c) (hv : in64 v) : Sat Try.prog 15 [.d (cD c), iA v] [] (.tup [.d (cD (addC c v).1), iA (addC c v).2]) [] := by
  have hl := hc.hl
  have r1 := right_sat_c c hc

  by_cases hr : rightC c = true
  case neg =>
    have hr : rightC c = false := by simpa using hr
    have e : addC c v = (zC, 10) := by unfold addC; rw [if_pos hr]
    rw [e]
    rw [hr] at r1
    refine sat_of_vc (T := tiOf Try.prog) (E := E0) Try.func15 rfl rfl hE0 hm0 rfl ?_
    conv => whnf
    iterate 3
      repeat (any_goals (first
        | exact True.intro
        | (refine ⟨_, drop_id, ?_⟩; conv => whnf)
        | (refine ⟨_, _, at_n, ?_⟩; conv => whnf)
        | (refine ⟨_, _, at_hi, ?_⟩; conv => whnf)
        | (refine ⟨_, _, at_lo, ?_⟩; conv => whnf)
        | (refine ⟨_, _, at_mn, ?_⟩; conv => whnf)
        | (refine ⟨_, _, at_mx, ?_⟩; conv => whnf)
        | (refine ⟨_, _, at_ce, ?_⟩; conv => whnf)
        | (refine ⟨_, _, at_po, ?_⟩; conv => whnf)
        | (refine ⟨_, whole_z sC, clenz sC, ?_⟩; conv => whnf)
        | (refine ⟨_, setzC, ?_⟩; conv => whnf)
        | (refine And.intro (clenz sC) ?_; conv => whnf)
        | (refine And.intro fitzC ?_; conv => whnf)
        | (refine ⟨_, whole_cell sC hl, clen sC hl, ?_⟩; conv => whnf)
        | (refine And.intro (clen sC hl) ?_; conv => whnf)
        | (refine And.intro (fitC hl) ?_; conv => whnf)
        | (refine ⟨_, setC hl, ?_⟩; conv => whnf)
        | (refine ⟨_, whole_z sF, clenz sF, ?_⟩; conv => whnf)
        | (refine ⟨_, setzF, ?_⟩; conv => whnf)
        | (refine And.intro (clenz sF) ?_; conv => whnf)
        | (refine And.intro fitzF ?_; conv => whnf)
        | (refine ⟨_, whole_cell sF hl, clen sF hl, ?_⟩; conv => whnf)
        | (refine And.intro (clen sF hl) ?_; conv => whnf)
        | (refine And.intro (fitF hl) ?_; conv => whnf)
        | (refine ⟨_, setF hl, ?_⟩; conv => whnf)
        | (refine And.intro (fit1 hl (by decide)) ?_; conv => whnf)
        | (refine And.intro (fit1 rfl (by decide)) ?_; conv => whnf)
        | (refine ⟨_, sum_cell s25, rfl, ?_⟩; conv => whnf)
        | (refine ⟨_, set_n _, ?_⟩; conv => whnf)
        | (refine ⟨_, set_mn _, ?_⟩; conv => whnf)
        | (refine ⟨_, set_mx _, ?_⟩; conv => whnf)
        | (refine ⟨_, set_ce _, ?_⟩; conv => whnf)
        | (refine ⟨_, set_po _, ?_⟩; conv => whnf)
        | (refine ⟨_, set_s _, ?_⟩; conv => whnf)
        | (refine ⟨_, set_hi _, ?_⟩; conv => whnf)
        | (refine ⟨_, set_lo _, ?_⟩; conv => whnf)
        | (refine And.intro (fun _ => ?_) tf; conv => whnf)
        | (refine And.intro ft (fun _ => ?_); conv => whnf)
        | (refine And.intro (by kernel_rfl) ?_; conv => whnf)
        | (refine And.intro (by decide) ?_; conv => whnf)
        | (refine And.intro (fun _ => ?_) (fun h => absurd h (by decide)); conv => whnf)
        | (refine And.intro (fun h => absurd h (by decide)) (fun _ => ?_); conv => whnf)
        | (refine And.intro (fun _ => ?_) (fun _ => ?_) <;> conv => whnf)
        | (refine ⟨_, _, r1.pu rfl rfl, ?_⟩; conv => whnf)))
      all_goals try (exfalso; simp only [decide_eq_true_eq, decide_eq_false_iff_not, Bool.not_eq_true', Bool.not_eq_false', Bool.not_eq_true, Bool.not_eq_false, beq_iff_eq, bne_iff_ne, beq_eq_false_iff_ne, bne_eq_false_iff_eq, ne_eq, Decidable.not_not] at *; first | omega | contradiction | (simp_all; done) | (simp_all; omega))
      all_goals try (refine Or.inl ?_; conv => whnf)
    all_goals refine ⟨[], ?_⟩
    repeat (any_goals (first | exact True.intro | exact rfl | with_reducible_and_instances rfl | exact (by kernel_rfl) | refine And.intro ?_ ?_))
    all_goals conv => whnf
  have hR := right_iff.1 hr
  rw [hr] at r1
  have sa := safeAdd_sat c.n 1 hc.n (by unfold in64; omega)
  have hn0 := hR.n
  by_cases hn : c.n = big
  · have e : addC c v = (zC, 12) := by unfold addC; rw [if_neg (by rw [hr]; simp), if_pos hn]
    have e2 : addR c.n 1 = (0, 12) := by unfold addR; rw [if_pos (by rw [hn]; unfold big; omega)]
    rw [e]
    rw [e2] at sa
    refine sat_of_vc (T := tiOf Try.prog) (E := E0) Try.func15 rfl rfl hE0 hm0 rfl ?_
    conv => whnf
    iterate 4
      repeat (any_goals (first
        | exact True.intro
        | (refine ⟨_, drop_id, ?_⟩; conv => whnf)
        | (refine ⟨_, _, at_n, ?_⟩; conv => whnf)
        | (refine ⟨_, _, at_hi, ?_⟩; conv => whnf)
        | (refine ⟨_, _, at_lo, ?_⟩; conv => whnf)
        | (refine ⟨_, _, at_mn, ?_⟩; conv => whnf)
        | (refine ⟨_, _, at_mx, ?_⟩; conv => whnf)
        | (refine ⟨_, _, at_ce, ?_⟩; conv => whnf)
        | (refine ⟨_, _, at_po, ?_⟩; conv => whnf)
        | (refine ⟨_, whole_z sC, clenz sC, ?_⟩; conv => whnf)
        | (refine ⟨_, setzC, ?_⟩; conv => whnf)
        | (refine And.intro (clenz sC) ?_; conv => whnf)
        | (refine And.intro fitzC ?_; conv => whnf)
        | (refine ⟨_, whole_cell sC hl, clen sC hl, ?_⟩; conv => whnf)
        | (refine And.intro (clen sC hl) ?_; conv => whnf)
        | (refine And.intro (fitC hl) ?_; conv => whnf)
        | (refine ⟨_, setC hl, ?_⟩; conv => whnf)
        | (refine ⟨_, whole_z sF, clenz sF, ?_⟩; conv => whnf)
        | (refine ⟨_, setzF, ?_⟩; conv => whnf)
        | (refine And.intro (clenz sF) ?_; conv => whnf)
        | (refine And.intro fitzF ?_; conv => whnf)
        | (refine ⟨_, whole_cell sF hl, clen sF hl, ?_⟩; conv => whnf)
        | (refine And.intro (clen sF hl) ?_; conv => whnf)
        | (refine And.intro (fitF hl) ?_; conv => whnf)
        | (refine ⟨_, setF hl, ?_⟩; conv => whnf)
        | (refine And.intro (fit1 hl (by decide)) ?_; conv => whnf)
        | (refine And.intro (fit1 rfl (by decide)) ?_; conv => whnf)
        | (refine ⟨_, sum_cell s25, rfl, ?_⟩; conv => whnf)
        | (refine ⟨_, set_n _, ?_⟩; conv => whnf)
        | (refine ⟨_, set_mn _, ?_⟩; conv => whnf)
        | (refine ⟨_, set_mx _, ?_⟩; conv => whnf)
        | (refine ⟨_, set_ce _, ?_⟩; conv => whnf)
        | (refine ⟨_, set_po _, ?_⟩; conv => whnf)
        | (refine ⟨_, set_s _, ?_⟩; conv => whnf)
        | (refine ⟨_, set_hi _, ?_⟩; conv => whnf)
        | (refine ⟨_, set_lo _, ?_⟩; conv => whnf)
        | (refine And.intro (fun _ => ?_) tf; conv => whnf)
        | (refine And.intro ft (fun _ => ?_); conv => whnf)
        | (refine And.intro (by kernel_rfl) ?_; conv => whnf)
        | (refine And.intro (by decide) ?_; conv => whnf)
        | (refine And.intro (fun _ => ?_) (fun h => absurd h (by decide)); conv => whnf)
        | (refine And.intro (fun h => absurd h (by decide)) (fun _ => ?_); conv => whnf)
        | (refine And.intro (fun _ => ?_) (fun _ => ?_) <;> conv => whnf)
        | (refine ⟨_, _, r1.pu rfl rfl, ?_⟩; conv => whnf)
        | (refine ⟨_, _, sa.pu rfl rfl, ?_⟩; conv => whnf)))
      all_goals try (exfalso; simp only [decide_eq_true_eq, decide_eq_false_iff_not, Bool.not_eq_true', Bool.not_eq_false', Bool.not_eq_true, Bool.not_eq_false, beq_iff_eq, bne_iff_ne, beq_eq_false_iff_ne, bne_eq_false_iff_eq, ne_eq, Decidable.not_not] at *; first | omega | contradiction | (simp_all; done) | (simp_all; omega))
      all_goals try (refine Or.inl ?_; conv => whnf)
    all_goals refine ⟨[], ?_⟩
    repeat (any_goals (first | exact True.intro | exact rfl | with_reducible_and_instances rfl | exact (by kernel_rfl) | refine And.intro ?_ ?_))
    all_goals conv => whnf
  have e2 : addR c.n 1 = (c.n + 1, 0) := by unfold addR; rw [if_neg (by have := hc.n; unfold in64 at this; unfold big at hn; omega)]
  rw [e2] at sa
  have wo := wof_sat v hv
  have wa := wadd_sat c.s v hc.s (by unfold in128 hiZ word; unfold in64 at *; omega)
  by_cases hs : in128 (c.s + v)
  case neg =>
    have e : addC c v = (zC, 12) := by unfold addC; rw [if_neg (by rw [hr]; simp), if_neg hn, if_pos hs]
    rw [e]
    rw [if_neg hs] at wa
    refine sat_of_vc (T := tiOf Try.prog) (E := E0) Try.func15 rfl rfl hE0 hm0 rfl ?_
    conv => whnf
    iterate 5
      repeat (any_goals (first
        | exact True.intro
        | (refine ⟨_, drop_id, ?_⟩; conv => whnf)
        | (refine ⟨_, _, at_n, ?_⟩; conv => whnf)
        | (refine ⟨_, _, at_hi, ?_⟩; conv => whnf)
        | (refine ⟨_, _, at_lo, ?_⟩; conv => whnf)
        | (refine ⟨_, _, at_mn, ?_⟩; conv => whnf)
        | (refine ⟨_, _, at_mx, ?_⟩; conv => whnf)
        | (refine ⟨_, _, at_ce, ?_⟩; conv => whnf)
        | (refine ⟨_, _, at_po, ?_⟩; conv => whnf)
        | (refine ⟨_, whole_z sC, clenz sC, ?_⟩; conv => whnf)
        | (refine ⟨_, setzC, ?_⟩; conv => whnf)
        | (refine And.intro (clenz sC) ?_; conv => whnf)
        | (refine And.intro fitzC ?_; conv => whnf)
        | (refine ⟨_, whole_cell sC hl, clen sC hl, ?_⟩; conv => whnf)
        | (refine And.intro (clen sC hl) ?_; conv => whnf)
        | (refine And.intro (fitC hl) ?_; conv => whnf)
        | (refine ⟨_, setC hl, ?_⟩; conv => whnf)
        | (refine ⟨_, whole_z sF, clenz sF, ?_⟩; conv => whnf)
        | (refine ⟨_, setzF, ?_⟩; conv => whnf)
        | (refine And.intro (clenz sF) ?_; conv => whnf)
        | (refine And.intro fitzF ?_; conv => whnf)
        | (refine ⟨_, whole_cell sF hl, clen sF hl, ?_⟩; conv => whnf)
        | (refine And.intro (clen sF hl) ?_; conv => whnf)
        | (refine And.intro (fitF hl) ?_; conv => whnf)
        | (refine ⟨_, setF hl, ?_⟩; conv => whnf)
        | (refine And.intro (fit1 hl (by decide)) ?_; conv => whnf)
        | (refine And.intro (fit1 rfl (by decide)) ?_; conv => whnf)
        | (refine ⟨_, sum_cell s25, rfl, ?_⟩; conv => whnf)
        | (refine ⟨_, set_n _, ?_⟩; conv => whnf)
        | (refine ⟨_, set_mn _, ?_⟩; conv => whnf)
        | (refine ⟨_, set_mx _, ?_⟩; conv => whnf)
        | (refine ⟨_, set_ce _, ?_⟩; conv => whnf)
        | (refine ⟨_, set_po _, ?_⟩; conv => whnf)
        | (refine ⟨_, set_s _, ?_⟩; conv => whnf)
        | (refine ⟨_, set_hi _, ?_⟩; conv => whnf)
        | (refine ⟨_, set_lo _, ?_⟩; conv => whnf)
        | (refine And.intro (fun _ => ?_) tf; conv => whnf)
        | (refine And.intro ft (fun _ => ?_); conv => whnf)
        | (refine And.intro (by kernel_rfl) ?_; conv => whnf)
        | (refine And.intro (by decide) ?_; conv => whnf)
        | (refine And.intro (fun _ => ?_) (fun h => absurd h (by decide)); conv => whnf)
        | (refine And.intro (fun h => absurd h (by decide)) (fun _ => ?_); conv => whnf)
        | (refine And.intro (fun _ => ?_) (fun _ => ?_) <;> conv => whnf)
        | (refine ⟨_, _, r1.pu rfl rfl, ?_⟩; conv => whnf)
        | (refine ⟨_, _, sa.pu rfl rfl, ?_⟩; conv => whnf)
        | (refine ⟨_, _, wo.pu rfl rfl, ?_⟩; conv => whnf)
        | (refine ⟨_, _, wa.pu rfl rfl, ?_⟩; conv => whnf)))
      all_goals try (exfalso; simp only [decide_eq_true_eq, decide_eq_false_iff_not, Bool.not_eq_true', Bool.not_eq_false', Bool.not_eq_true, Bool.not_eq_false, beq_iff_eq, bne_iff_ne, beq_eq_false_iff_ne, bne_eq_false_iff_eq, ne_eq, Decidable.not_not] at *; first | omega | contradiction | (simp_all; done) | (simp_all; omega))
      all_goals try (refine Or.inl ?_; conv => whnf)
    all_goals refine ⟨[], ?_⟩
    repeat (any_goals (first | exact True.intro | exact rfl | with_reducible_and_instances rfl | exact (by kernel_rfl) | refine And.intro ?_ ?_))
    all_goals conv => whnf
  rw [if_pos hs] at wa
  obtain ⟨h1, h2⟩ := hist_fine hc hR hv hn
  have ha := add_sat c.h v hl hv hc.hx
  rw [h1, h2] at ha
  have hbl : (bump c.h (bkt v)).length = 65 := by rw [bump_len]; exact hl
  have hf := addC_fine (v := v) hR hn hs
  rw [hf]
  generalize bump c.h (bkt v) = b at *
  generalize c.s + v = s at *
  refine sat_of_vc (T := tiOf Try.prog) (E := E0) Try.func15 rfl rfl hE0 hm0 rfl ?_
  conv => whnf
  iterate 7
    repeat (any_goals (first
      | exact True.intro
      | (refine ⟨_, drop_id, ?_⟩; conv => whnf)
      | (refine ⟨_, _, at_n, ?_⟩; conv => whnf)
      | (refine ⟨_, _, at_hi, ?_⟩; conv => whnf)
      | (refine ⟨_, _, at_lo, ?_⟩; conv => whnf)
      | (refine ⟨_, _, at_mn, ?_⟩; conv => whnf)
      | (refine ⟨_, _, at_mx, ?_⟩; conv => whnf)
      | (refine ⟨_, _, at_ce, ?_⟩; conv => whnf)
      | (refine ⟨_, _, at_po, ?_⟩; conv => whnf)
      | (refine ⟨_, whole_z sC, clenz sC, ?_⟩; conv => whnf)
      | (refine ⟨_, setzC, ?_⟩; conv => whnf)
      | (refine And.intro (clenz sC) ?_; conv => whnf)
      | (refine And.intro fitzC ?_; conv => whnf)
      | (refine ⟨_, whole_cell sC hl, clen sC hl, ?_⟩; conv => whnf)
      | (refine And.intro (clen sC hl) ?_; conv => whnf)
      | (refine And.intro (fitC hl) ?_; conv => whnf)
      | (refine ⟨_, setC hl, ?_⟩; conv => whnf)
      | (refine ⟨_, whole_cell sC hbl, clen sC hbl, ?_⟩; conv => whnf)
      | (refine And.intro (clen sC hbl) ?_; conv => whnf)
      | (refine And.intro (fitC hbl) ?_; conv => whnf)
      | (refine ⟨_, setC hbl, ?_⟩; conv => whnf)
      | (refine ⟨_, whole_z sF, clenz sF, ?_⟩; conv => whnf)
      | (refine ⟨_, setzF, ?_⟩; conv => whnf)
      | (refine And.intro (clenz sF) ?_; conv => whnf)
      | (refine And.intro fitzF ?_; conv => whnf)
      | (refine ⟨_, whole_cell sF hl, clen sF hl, ?_⟩; conv => whnf)
      | (refine And.intro (clen sF hl) ?_; conv => whnf)
      | (refine And.intro (fitF hl) ?_; conv => whnf)
      | (refine ⟨_, setF hl, ?_⟩; conv => whnf)
      | (refine ⟨_, whole_cell sF hbl, clen sF hbl, ?_⟩; conv => whnf)
      | (refine And.intro (clen sF hbl) ?_; conv => whnf)
      | (refine And.intro (fitF hbl) ?_; conv => whnf)
      | (refine ⟨_, setF hbl, ?_⟩; conv => whnf)
      | (refine And.intro (fit1 hl (by decide)) ?_; conv => whnf)
      | (refine And.intro (fit1 hbl (by decide)) ?_; conv => whnf)
      | (refine And.intro (fit1 rfl (by decide)) ?_; conv => whnf)
      | (refine ⟨_, sum_cell s25, rfl, ?_⟩; conv => whnf)
      | (refine ⟨_, set_n _, ?_⟩; conv => whnf)
      | (refine ⟨_, set_mn _, ?_⟩; conv => whnf)
      | (refine ⟨_, set_mx _, ?_⟩; conv => whnf)
      | (refine ⟨_, set_ce _, ?_⟩; conv => whnf)
      | (refine ⟨_, set_po _, ?_⟩; conv => whnf)
      | (refine ⟨_, set_s _, ?_⟩; conv => whnf)
      | (refine ⟨_, set_hi _, ?_⟩; conv => whnf)
      | (refine ⟨_, set_lo _, ?_⟩; conv => whnf)
      | (refine ⟨_, hist_cell s69 hl, whole_len s69 hl, ?_⟩; conv => whnf)
      | (refine ⟨_, whole_row s69 hbl, whole_len s69 hbl, ?_⟩; conv => whnf)
      | (refine And.intro (whole_len s69 hbl) ?_; conv => whnf)
      | (refine And.intro (fit69 hbl) ?_; conv => whnf)
      | (refine ⟨_, set69 hbl, ?_⟩; conv => whnf)
      | (refine And.intro (hist_fit hl hbl) ?_; conv => whnf)
      | (refine ⟨_, set_hh hl hbl, ?_⟩; conv => whnf)
      | (refine And.intro (sum_fit hl) ?_; conv => whnf)
      | (refine And.intro (fun _ => ?_) tf; conv => whnf)
      | (refine And.intro ft (fun _ => ?_); conv => whnf)
      | (refine And.intro (by kernel_rfl) ?_; conv => whnf)
      | (refine And.intro (by decide) ?_; conv => whnf)
      | (refine And.intro (fun _ => ?_) (fun h => absurd h (by decide)); conv => whnf)
      | (refine And.intro (fun h => absurd h (by decide)) (fun _ => ?_); conv => whnf)
      | (refine And.intro (fun _ => ?_) (fun _ => ?_) <;> conv => whnf)
      | (refine ⟨_, _, r1.pu rfl rfl, ?_⟩; conv => whnf)
      | (refine ⟨_, _, sa.pu rfl rfl, ?_⟩; conv => whnf)
      | (refine ⟨_, _, wo.pu rfl rfl, ?_⟩; conv => whnf)
      | (refine ⟨_, _, wa.pu rfl rfl, ?_⟩; conv => whnf)
      | (refine ⟨_, _, ha.pu rfl rfl, ?_⟩; conv => whnf)))
    all_goals try (exfalso; simp only [decide_eq_true_eq, decide_eq_false_iff_not, Bool.not_eq_true', Bool.not_eq_false', Bool.not_eq_true, Bool.not_eq_false, beq_iff_eq, bne_iff_ne, beq_eq_false_iff_ne, bne_eq_false_iff_eq, ne_eq, Decidable.not_not] at *; first | omega | contradiction | (simp_all; done) | (simp_all; omega))
    all_goals try (refine Or.inl ?_; conv => whnf)
  · have q : c.n = 0 := (by (try simp only [decide_eq_true_eq, decide_eq_false_iff_not, Bool.not_eq_true', Bool.not_eq_false', Bool.not_eq_true, Bool.not_eq_false, beq_iff_eq, bne_iff_ne, beq_eq_false_iff_ne, bne_eq_false_iff_eq, ne_eq, Decidable.not_not, Int.natCast_eq_zero] at *); first | omega | assumption | (simp_all; done) | (simp_all; omega))
    rw [if_pos q, if_pos q]
    have e1 : (if v < v then v else v) = v := by split <;> rfl
    rw [e1]
    all_goals refine ⟨[], ?_⟩
    repeat (any_goals (first | exact True.intro | exact rfl | with_reducible_and_instances rfl | exact (by kernel_rfl) | refine And.intro ?_ ?_))
    all_goals conv => whnf
  · have q : ¬ c.n = 0 := (by (try simp only [decide_eq_true_eq, decide_eq_false_iff_not, Bool.not_eq_true', Bool.not_eq_false', Bool.not_eq_true, Bool.not_eq_false, beq_iff_eq, bne_iff_ne, beq_eq_false_iff_ne, bne_eq_false_iff_eq, ne_eq, Decidable.not_not, Int.natCast_eq_zero] at *); first | omega | assumption | (simp_all; done) | (simp_all; omega))
    rw [if_neg q, if_neg q, min_if, max_if]
    all_goals refine ⟨[], ?_⟩
    repeat (any_goals (first | exact True.intro | exact rfl | with_reducible_and_instances rfl | exact (by kernel_rfl) | refine And.intro ?_ ?_))
    all_goals conv => whnf
end Go.Proofs.Ytbjmdnemeidpjaa
/- Fold of a cell. -/
namespace Go.Proofs.Ytbjmdnemeidpjaa
set_option linter.unusedSimpArgs false
set_option linter.unusedVariables false
open Go.RowKit
set_option maxRecDepth 100000
theorem wsum_sat (l : List Int) (hl : ∀ z ∈ l, in64 z) (hn : l.length ≤ 60000) : Sat Try.prog 29 [.d (lD l)] [] (.d (wD l.sum)) [] :=
  .of_sl (lR_flats l) .nil (.d (wD_flat _)) fun w A c _ _ hr => by
    rw [List.length_map] at hr ⊢
    exact sum_any A l.length c l w hr (by omega) hl
theorem build_cell {n s : Int} {h : List Int} (hh : h.length = 65) : sets (sets (sets (List.map D.v (tiOf Try.prog 29).zero) 0 [iD n]) 1 [iD (hiZ s), uZ (loZ s)]) 7 (hR h) = cR ⟨n, s, 0, 0, 0, 0, h⟩ := by
  rw [zeC]
  exact set_hh (n := n) (s := s) (mn := 0) (mx := 0) (ce := 0) (po := 0) (h := z65) rfl hh
theorem map_lR_get {l : List Int} {k : Nat} {x : Int} (h : l[k]? = some x) : (l.map lR)[k]? = some (lR x) := map_get h
set_option maxHeartbeats 4000000 in
theorem fold_sat_c (l : List Int) (hl : ∀ z ∈ l, in64 z) (hn : l.length ≤ 60000) : Sat Try.prog 10 [.d (lD l)] [] (.d (cD (foldC l))) [] := by
  have hm : (l.map lR).length = l.length := List.length_map _
  have s1 := wsum_sat l hl hn
  have o1 := of_sat l hl (by omega)
  have hh : (histL l).length = 65 := histL_len l
  have ef : foldC l = ⟨l.length, l.sum, mmin l, mmax l, 0, 0, histL l⟩ := rfl
  rw [ef]
  generalize histL l = h at *
  generalize l.sum = s at *
  refine sat_of_vc (T := tiOf Try.prog) (E := E0) Try.func10 rfl rfl hE0 hm0 rfl ?_
  conv => whnf
  iterate 2
    repeat (any_goals (first
      | exact True.intro
      | (refine And.intro (whole_len s69 hh) ?_; conv => whnf)
      | (refine ⟨_, build_cell hh, ?_⟩; conv => whnf)
      | (refine ⟨_, drop_id, ?_⟩; conv => whnf)
      | (refine ⟨_, _, at_n, ?_⟩; conv => whnf)
      | (refine ⟨_, _, at_hi, ?_⟩; conv => whnf)
      | (refine ⟨_, _, at_lo, ?_⟩; conv => whnf)
      | (refine ⟨_, _, at_mn, ?_⟩; conv => whnf)
      | (refine ⟨_, _, at_mx, ?_⟩; conv => whnf)
      | (refine ⟨_, _, at_ce, ?_⟩; conv => whnf)
      | (refine ⟨_, _, at_po, ?_⟩; conv => whnf)
      | (refine ⟨_, whole_z sC, clenz sC, ?_⟩; conv => whnf)
      | (refine ⟨_, setzC, ?_⟩; conv => whnf)
      | (refine And.intro (clenz sC) ?_; conv => whnf)
      | (refine And.intro fitzC ?_; conv => whnf)
      | (refine ⟨_, whole_cell sC hh, clen sC hh, ?_⟩; conv => whnf)
      | (refine And.intro (clen sC hh) ?_; conv => whnf)
      | (refine And.intro (fitC hh) ?_; conv => whnf)
      | (refine ⟨_, setC hh, ?_⟩; conv => whnf)
      | (refine ⟨_, whole_z sF, clenz sF, ?_⟩; conv => whnf)
      | (refine ⟨_, setzF, ?_⟩; conv => whnf)
      | (refine And.intro (clenz sF) ?_; conv => whnf)
      | (refine And.intro fitzF ?_; conv => whnf)
      | (refine ⟨_, whole_cell sF hh, clen sF hh, ?_⟩; conv => whnf)
      | (refine And.intro (clen sF hh) ?_; conv => whnf)
      | (refine And.intro (fitF hh) ?_; conv => whnf)
      | (refine ⟨_, setF hh, ?_⟩; conv => whnf)
      | (refine And.intro (fit1 hh (by decide)) ?_; conv => whnf)
      | (refine And.intro (fit1 rfl (by decide)) ?_; conv => whnf)
      | (refine ⟨_, sum_cell s25, rfl, ?_⟩; conv => whnf)
      | (refine ⟨_, set_n _, ?_⟩; conv => whnf)
      | (refine ⟨_, set_mn _, ?_⟩; conv => whnf)
      | (refine ⟨_, set_mx _, ?_⟩; conv => whnf)
      | (refine ⟨_, set_ce _, ?_⟩; conv => whnf)
      | (refine ⟨_, set_po _, ?_⟩; conv => whnf)
      | (refine ⟨_, set_s _, ?_⟩; conv => whnf)
      | (refine ⟨_, set_hi _, ?_⟩; conv => whnf)
      | (refine ⟨_, set_lo _, ?_⟩; conv => whnf)
      | (refine And.intro (fun _ => ?_) tf; conv => whnf)
      | (refine And.intro ft (fun _ => ?_); conv => whnf)
      | (refine And.intro (by kernel_rfl) ?_; conv => whnf)
      | (refine And.intro (by decide) ?_; conv => whnf)
      | (refine And.intro (fun _ => ?_) (fun h => absurd h (by decide)); conv => whnf)
      | (refine And.intro (fun h => absurd h (by decide)) (fun _ => ?_); conv => whnf)
      | (refine And.intro (fun _ => ?_) (fun _ => ?_) <;> conv => whnf)
      | (refine ⟨_, _, s1.pu rfl rfl, ?_⟩; conv => whnf)
      | (refine ⟨_, _, o1.pu rfl rfl, ?_⟩; conv => whnf)))
    all_goals try (exfalso; simp only [decide_eq_true_eq, decide_eq_false_iff_not, Bool.not_eq_true', Bool.not_eq_false', Bool.not_eq_true, Bool.not_eq_false, beq_iff_eq, bne_iff_ne, beq_eq_false_iff_ne, bne_eq_false_iff_eq, ne_eq, Decidable.not_not] at *; first | omega | contradiction | (simp_all; done) | (simp_all; omega))
    all_goals try (refine Or.inl ?_; conv => whnf)
  refine ⟨Nat × Int × Int, fun y => y.1 ≤ l.length ∧ y.2.1 = mmin (l.take y.1) ∧ y.2.2 = mmax (l.take y.1), fun y => ([(15, iA y.1), (14, iA (l.map lR).length), (13, .d (lD l)), (3, .ptr 1 0), (2, .ptr 0 0)], [.row (cR zC), .row (cR ⟨l.length, s, y.2.1, y.2.2, 0, 0, h⟩)]), fun y => l.length - y.1, ⟨(0, 0, 0), ⟨Nat.zero_le _, rfl, rfl⟩, ?_⟩, ?_⟩
  · all_goals refine ⟨[], ?_⟩
    repeat (any_goals (first | exact True.intro | exact rfl | with_reducible_and_instances rfl | exact (by kernel_rfl) | refine And.intro ?_ ?_))
    all_goals conv => whnf
    show AObj.row (cR ⟨((l.map lR).length : Nat), s, 0, 0, 0, 0, h⟩) = _
    rw [hm]
  rintro ⟨k, a, b⟩ ⟨hk, ha, hb⟩
  have hk : k ≤ l.length := hk
  have ha : a = mmin (l.take k) := ha
  have hb : b = mmax (l.take k) := hb
  conv => whnf
  by_cases hlt : k < l.length
  · have hx : l[k]? = some l[k] := List.getElem?_eq_getElem hlt
    have q1 : mmin (l.take (k + 1)) = if k = 0 then l[k] else min a l[k] := by
      rw [List.take_succ_eq_append_getElem hlt, mmin_snoc, ← ha]
      by_cases e : k = 0
      · subst e; simp
      · rw [if_neg e, if_neg]; intro q; have := congrArg List.length q; rw [List.length_take, List.length_nil] at this; omega
    have q2 : mmax (l.take (k + 1)) = if k = 0 then l[k] else max b l[k] := by
      rw [List.take_succ_eq_append_getElem hlt, mmax_snoc, ← hb]
      by_cases e : k = 0
      · subst e; simp
      · rw [if_neg e, if_neg]; intro q; have := congrArg List.length q; rw [List.length_take, List.length_nil] at this; omega
    generalize l[k] = x at hx q1 q2
    by_cases e : k = 0
    · subst e
      rw [if_pos rfl] at q1 q2
      iterate 4
        repeat (any_goals (first
          | exact True.intro
          | (refine ⟨_, drop_id, ?_⟩; conv => whnf)
          | (refine ⟨_, _, at_n, ?_⟩; conv => whnf)
          | (refine ⟨_, _, at_hi, ?_⟩; conv => whnf)
          | (refine ⟨_, _, at_lo, ?_⟩; conv => whnf)
          | (refine ⟨_, _, at_mn, ?_⟩; conv => whnf)
          | (refine ⟨_, _, at_mx, ?_⟩; conv => whnf)
          | (refine ⟨_, _, at_ce, ?_⟩; conv => whnf)
          | (refine ⟨_, _, at_po, ?_⟩; conv => whnf)
          | (refine ⟨_, whole_z sC, clenz sC, ?_⟩; conv => whnf)
          | (refine ⟨_, setzC, ?_⟩; conv => whnf)
          | (refine And.intro (clenz sC) ?_; conv => whnf)
          | (refine And.intro fitzC ?_; conv => whnf)
          | (refine ⟨_, whole_cell sC hh, clen sC hh, ?_⟩; conv => whnf)
          | (refine And.intro (clen sC hh) ?_; conv => whnf)
          | (refine And.intro (fitC hh) ?_; conv => whnf)
          | (refine ⟨_, setC hh, ?_⟩; conv => whnf)
          | (refine ⟨_, whole_z sF, clenz sF, ?_⟩; conv => whnf)
          | (refine ⟨_, setzF, ?_⟩; conv => whnf)
          | (refine And.intro (clenz sF) ?_; conv => whnf)
          | (refine And.intro fitzF ?_; conv => whnf)
          | (refine ⟨_, whole_cell sF hh, clen sF hh, ?_⟩; conv => whnf)
          | (refine And.intro (clen sF hh) ?_; conv => whnf)
          | (refine And.intro (fitF hh) ?_; conv => whnf)
          | (refine ⟨_, setF hh, ?_⟩; conv => whnf)
          | (refine And.intro (fit1 hh (by decide)) ?_; conv => whnf)
          | (refine And.intro (fit1 rfl (by decide)) ?_; conv => whnf)
          | (refine ⟨_, sum_cell s25, rfl, ?_⟩; conv => whnf)
          | (refine ⟨_, set_n _, ?_⟩; conv => whnf)
          | (refine ⟨_, set_mn _, ?_⟩; conv => whnf)
          | (refine ⟨_, set_mx _, ?_⟩; conv => whnf)
          | (refine ⟨_, set_ce _, ?_⟩; conv => whnf)
          | (refine ⟨_, set_po _, ?_⟩; conv => whnf)
          | (refine ⟨_, set_s _, ?_⟩; conv => whnf)
          | (refine ⟨_, set_hi _, ?_⟩; conv => whnf)
          | (refine ⟨_, set_lo _, ?_⟩; conv => whnf)
          | (refine ⟨0, _, rfl, map_lR_get hx, ?_⟩; conv => whnf)
          | (refine And.intro (fun _ => ?_) tf; conv => whnf)
          | (refine And.intro ft (fun _ => ?_); conv => whnf)
          | (refine And.intro (by kernel_rfl) ?_; conv => whnf)
          | (refine And.intro (by decide) ?_; conv => whnf)
          | (refine And.intro (fun _ => ?_) (fun h => absurd h (by decide)); conv => whnf)
          | (refine And.intro (fun h => absurd h (by decide)) (fun _ => ?_); conv => whnf)
          | (refine And.intro (fun _ => ?_) (fun _ => ?_) <;> conv => whnf)))
        all_goals try (exfalso; simp only [decide_eq_true_eq, decide_eq_false_iff_not, Bool.not_eq_true', Bool.not_eq_false', Bool.not_eq_true, Bool.not_eq_false, beq_iff_eq, bne_iff_ne, beq_eq_false_iff_ne, bne_eq_false_iff_eq, ne_eq, Decidable.not_not] at *; first | omega | contradiction | (simp_all; done) | (simp_all; omega))
        all_goals try (refine Or.inl ?_; conv => whnf)
      refine ⟨(0 + 1, x, x), ⟨hlt, q1.symm, q2.symm⟩, show l.length - (0 + 1) < l.length - 0 by omega, ?_⟩
      all_goals refine ⟨[], ?_⟩
      repeat (any_goals (first | exact True.intro | exact rfl | with_reducible_and_instances rfl | exact (by kernel_rfl) | refine And.intro ?_ ?_))
      all_goals conv => whnf
      show AObj.row (cR ⟨l.length, s, if x < x then x else x, if x > x then x else x, 0, 0, h⟩) = AObj.row (cR ⟨l.length, s, x, x, 0, 0, h⟩)
      rw [show (if x < x then x else x) = x by split <;> rfl]
    · rw [if_neg e] at q1 q2
      iterate 4
        repeat (any_goals (first
          | exact True.intro
          | (refine ⟨_, drop_id, ?_⟩; conv => whnf)
          | (refine ⟨_, _, at_n, ?_⟩; conv => whnf)
          | (refine ⟨_, _, at_hi, ?_⟩; conv => whnf)
          | (refine ⟨_, _, at_lo, ?_⟩; conv => whnf)
          | (refine ⟨_, _, at_mn, ?_⟩; conv => whnf)
          | (refine ⟨_, _, at_mx, ?_⟩; conv => whnf)
          | (refine ⟨_, _, at_ce, ?_⟩; conv => whnf)
          | (refine ⟨_, _, at_po, ?_⟩; conv => whnf)
          | (refine ⟨_, whole_z sC, clenz sC, ?_⟩; conv => whnf)
          | (refine ⟨_, setzC, ?_⟩; conv => whnf)
          | (refine And.intro (clenz sC) ?_; conv => whnf)
          | (refine And.intro fitzC ?_; conv => whnf)
          | (refine ⟨_, whole_cell sC hh, clen sC hh, ?_⟩; conv => whnf)
          | (refine And.intro (clen sC hh) ?_; conv => whnf)
          | (refine And.intro (fitC hh) ?_; conv => whnf)
          | (refine ⟨_, setC hh, ?_⟩; conv => whnf)
          | (refine ⟨_, whole_z sF, clenz sF, ?_⟩; conv => whnf)
          | (refine ⟨_, setzF, ?_⟩; conv => whnf)
          | (refine And.intro (clenz sF) ?_; conv => whnf)
          | (refine And.intro fitzF ?_; conv => whnf)
          | (refine ⟨_, whole_cell sF hh, clen sF hh, ?_⟩; conv => whnf)
          | (refine And.intro (clen sF hh) ?_; conv => whnf)
          | (refine And.intro (fitF hh) ?_; conv => whnf)
          | (refine ⟨_, setF hh, ?_⟩; conv => whnf)
          | (refine And.intro (fit1 hh (by decide)) ?_; conv => whnf)
          | (refine And.intro (fit1 rfl (by decide)) ?_; conv => whnf)
          | (refine ⟨_, sum_cell s25, rfl, ?_⟩; conv => whnf)
          | (refine ⟨_, set_n _, ?_⟩; conv => whnf)
          | (refine ⟨_, set_mn _, ?_⟩; conv => whnf)
          | (refine ⟨_, set_mx _, ?_⟩; conv => whnf)
          | (refine ⟨_, set_ce _, ?_⟩; conv => whnf)
          | (refine ⟨_, set_po _, ?_⟩; conv => whnf)
          | (refine ⟨_, set_s _, ?_⟩; conv => whnf)
          | (refine ⟨_, set_hi _, ?_⟩; conv => whnf)
          | (refine ⟨_, set_lo _, ?_⟩; conv => whnf)
          | (refine ⟨k, _, rfl, map_lR_get hx, ?_⟩; conv => whnf)
          | (refine And.intro (fun _ => ?_) tf; conv => whnf)
          | (refine And.intro ft (fun _ => ?_); conv => whnf)
          | (refine And.intro (by kernel_rfl) ?_; conv => whnf)
          | (refine And.intro (by decide) ?_; conv => whnf)
          | (refine And.intro (fun _ => ?_) (fun h => absurd h (by decide)); conv => whnf)
          | (refine And.intro (fun h => absurd h (by decide)) (fun _ => ?_); conv => whnf)
          | (refine And.intro (fun _ => ?_) (fun _ => ?_) <;> conv => whnf)))
        all_goals try (exfalso; simp only [decide_eq_true_eq, decide_eq_false_iff_not, Bool.not_eq_true', Bool.not_eq_false', Bool.not_eq_true, Bool.not_eq_false, beq_iff_eq, bne_iff_ne, beq_eq_false_iff_ne, bne_eq_false_iff_eq, ne_eq, Decidable.not_not] at *; first | omega | contradiction | (simp_all; done) | (simp_all; omega))
        all_goals try (refine Or.inl ?_; conv => whnf)
      refine ⟨(k + 1, min a x, max b x), ⟨hlt, q1.symm, q2.symm⟩, show l.length - (k + 1) < l.length - k by omega, ?_⟩
      all_goals refine ⟨[], ?_⟩
      repeat (any_goals (first | exact True.intro | exact rfl | with_reducible_and_instances rfl | exact (by kernel_rfl) | refine And.intro ?_ ?_))
      all_goals conv => whnf
      · exact wk1 (by omega)
      · show AObj.row (cR ⟨l.length, s, if x < a then x else a, if x > b then x else b, 0, 0, h⟩) = AObj.row (cR ⟨l.length, s, min a x, max b x, 0, 0, h⟩)
        rw [min_if, max_if]
  · have hke : k = l.length := by omega
    subst hke
    rw [List.take_of_length_le (by omega)] at ha hb
    iterate 3
      repeat (any_goals (first
        | exact True.intro
        | (refine ⟨_, drop_id, ?_⟩; conv => whnf)
        | (refine ⟨_, _, at_n, ?_⟩; conv => whnf)
        | (refine ⟨_, _, at_hi, ?_⟩; conv => whnf)
        | (refine ⟨_, _, at_lo, ?_⟩; conv => whnf)
        | (refine ⟨_, _, at_mn, ?_⟩; conv => whnf)
        | (refine ⟨_, _, at_mx, ?_⟩; conv => whnf)
        | (refine ⟨_, _, at_ce, ?_⟩; conv => whnf)
        | (refine ⟨_, _, at_po, ?_⟩; conv => whnf)
        | (refine ⟨_, whole_z sC, clenz sC, ?_⟩; conv => whnf)
        | (refine ⟨_, setzC, ?_⟩; conv => whnf)
        | (refine And.intro (clenz sC) ?_; conv => whnf)
        | (refine And.intro fitzC ?_; conv => whnf)
        | (refine ⟨_, whole_cell sC hh, clen sC hh, ?_⟩; conv => whnf)
        | (refine And.intro (clen sC hh) ?_; conv => whnf)
        | (refine And.intro (fitC hh) ?_; conv => whnf)
        | (refine ⟨_, setC hh, ?_⟩; conv => whnf)
        | (refine ⟨_, whole_z sF, clenz sF, ?_⟩; conv => whnf)
        | (refine ⟨_, setzF, ?_⟩; conv => whnf)
        | (refine And.intro (clenz sF) ?_; conv => whnf)
        | (refine And.intro fitzF ?_; conv => whnf)
        | (refine ⟨_, whole_cell sF hh, clen sF hh, ?_⟩; conv => whnf)
        | (refine And.intro (clen sF hh) ?_; conv => whnf)
        | (refine And.intro (fitF hh) ?_; conv => whnf)
        | (refine ⟨_, setF hh, ?_⟩; conv => whnf)
        | (refine And.intro (fit1 hh (by decide)) ?_; conv => whnf)
        | (refine And.intro (fit1 rfl (by decide)) ?_; conv => whnf)
        | (refine ⟨_, sum_cell s25, rfl, ?_⟩; conv => whnf)
        | (refine ⟨_, set_n _, ?_⟩; conv => whnf)
        | (refine ⟨_, set_mn _, ?_⟩; conv => whnf)
        | (refine ⟨_, set_mx _, ?_⟩; conv => whnf)
        | (refine ⟨_, set_ce _, ?_⟩; conv => whnf)
        | (refine ⟨_, set_po _, ?_⟩; conv => whnf)
        | (refine ⟨_, set_s _, ?_⟩; conv => whnf)
        | (refine ⟨_, set_hi _, ?_⟩; conv => whnf)
        | (refine ⟨_, set_lo _, ?_⟩; conv => whnf)
        | (refine And.intro (fun _ => ?_) tf; conv => whnf)
        | (refine And.intro ft (fun _ => ?_); conv => whnf)
        | (refine And.intro (by kernel_rfl) ?_; conv => whnf)
        | (refine And.intro (by decide) ?_; conv => whnf)
        | (refine And.intro (fun _ => ?_) (fun h => absurd h (by decide)); conv => whnf)
        | (refine And.intro (fun h => absurd h (by decide)) (fun _ => ?_); conv => whnf)
        | (refine And.intro (fun _ => ?_) (fun _ => ?_) <;> conv => whnf)))
      all_goals try (exfalso; simp only [decide_eq_true_eq, decide_eq_false_iff_not, Bool.not_eq_true', Bool.not_eq_false', Bool.not_eq_true, Bool.not_eq_false, beq_iff_eq, bne_iff_ne, beq_eq_false_iff_ne, bne_eq_false_iff_eq, ne_eq, Decidable.not_not] at *; first | omega | contradiction | (simp_all; done) | (simp_all; omega))
      all_goals try (refine Or.inl ?_; conv => whnf)
    rw [← ha, ← hb]
    all_goals refine ⟨[], ?_⟩
    repeat (any_goals (first | exact True.intro | exact rfl | with_reducible_and_instances rfl | exact (by kernel_rfl) | refine And.intro ?_ ?_))
    all_goals conv => whnf
end Go.Proofs.Ytbjmdnemeidpjaa
/- Arrays and structs of numbers and bools, however deep, are compared. No program is named here. -/
namespace Go.Proofs.Ytbjmdnemeidpjaa
set_option linter.unusedSimpArgs false
set_option linter.unusedVariables false
open Go.RowKit
set_option linter.unusedSectionVars false
/-- What a cell holds: a bool, or a number of a kind. -/
abbrev Kd := Option IntKind
def okV : Kd → Value → Prop
  | none, v => ∃ b, v = .bool b
  | some q, v => ∃ z, v = .int q z ∧ (Lit.int q z).wf = true
def okL : List Kd → List Value → Prop
  | [], vs => vs = []
  | k :: ks, vs => ∃ v r, vs = v :: r ∧ okV k v ∧ okL ks r
def litV : Value → Lit
  | .bool b => .bool b
  | .int q z => .int q z
  | _ => .bool false
theorem okL_len : ∀ {ks : List Kd} {vs : List Value}, okL ks vs → vs.length = ks.length
  | [], _, h => by cases h; rfl
  | _ :: _, _, ⟨_, _, rfl, _, h⟩ => by simp [okL_len h]
theorem okL_app : ∀ {las bs : List Kd} {vs : List Value}, okL (las ++ bs) vs → ∃ x y, vs = x ++ y ∧ okL las x ∧ okL bs y
  | [], _, vs, h => ⟨[], vs, rfl, rfl, h⟩
  | _ :: _, _, _, ⟨v, r, rfl, h1, h⟩ => by
    obtain ⟨x, y, rfl, h2, h3⟩ := okL_app h
    exact ⟨v :: x, y, rfl, ⟨v, x, rfl, h1, h2⟩, h3⟩
theorem okL_join : ∀ {las bs : List Kd} {x y : List Value}, okL las x → okL bs y → okL (las ++ bs) (x ++ y)
  | [], _, _, _, h, h' => by cases h; exact h'
  | _ :: _, _, _, _, ⟨v, r, rfl, h1, h⟩, h' => ⟨v, _, rfl, h1, okL_join h h'⟩
theorem litV_inj : ∀ {ks : List Kd} {us vs : List Value}, okL ks us → okL ks vs → (us.map litV = vs.map litV ↔ us = vs)
  | [], _, _, h, h' => by cases h; cases h'; simp
  | none :: ks, _, _, ⟨_, r, rfl, ⟨b, rfl⟩, h⟩, ⟨_, r', rfl, ⟨b', rfl⟩, h'⟩ => by
    simp [litV, litV_inj h h']
  | some q :: ks, _, _, ⟨_, r, rfl, ⟨z, rfl, _⟩, h⟩, ⟨_, r', rfl, ⟨z', rfl, _⟩, h'⟩ => by
    simp [litV, litV_inj h h']
section
variable {P : Program} {L : List AObj} {ty n : Nat} {x y : Operand} {t t' : TypeId}
def fieldsK (P : Program) (k : TypeId → Option (List Kd)) : List Field → Nat → Option (List Kd)
  | [], _ => some []
  | f :: fs, o => match Nat.beq f.offset o, k f.type with
    | true, some a => (match Nat.beq a.length (P.cellsOf f.type), fieldsK P k fs (o + a.length) with
      | true, some b => some (a ++ b)
      | _, _ => none)
    | _, _ => none
def kinds (P : Program) : Nat → TypeId → Option (List Kd)
  | 0, _ => none
  | m + 1, t => match P.underlying t with
    | some .bool => some [none]
    | some (.int q) => some [some q]
    | some (.array n e) => (match kinds P m e with
      | some ks => if ks.length = P.cellsOf e ∧ n * ks.length = P.cellsOf t then some (List.replicate n ks).flatten else none
      | none => none)
    | some (.struct fs) => (match fieldsK P (kinds P m) fs.toList 0 with
      | some ks => if ks.length = P.cellsOf t ∧ fs.all (·.name != "_") = true then some ks else none
      | none => none)
    | _ => none
theorem fieldsK_lits {k : TypeId → Option (List Kd)} {K : TypeId → List Value → Option (List Lit)} (hk : ∀ t ks us, k t = some ks → okL ks us → K t us = some (us.map litV)) (vs : List Value) : ∀ (fs : List Field) (o : Nat) (ks : List Kd), fieldsK P k fs o = some ks → okL ks (vs.drop o) →
    ∃ las, fs.mapM (fun f => K f.type ((vs.drop f.offset).take (P.cellsOf f.type))) = some las ∧ las.flatten = (vs.drop o).map litV
  | [], o, ks, h, hv => by
    have h : some [] = some ks := h
    cases h
    have hv : vs.drop o = [] := hv
    exact ⟨[], rfl, by rw [hv]; rfl⟩
  | f :: fs, o, ks, h, hv => by
    unfold fieldsK at h
    split at h
    · rename_i a h1 h2
      have h1 := Nat.eq_of_beq_eq_true h1
      split at h
      · rename_i b h3 h4
        have h3 := Nat.eq_of_beq_eq_true h3
        cases h
        obtain ⟨u, w, e, hu, hw⟩ := okL_app hv
        have hul := okL_len hu
        have e1 : (vs.drop f.offset).take (P.cellsOf f.type) = u := by rw [h1, e, List.take_left' (by omega)]
        have e2 : vs.drop (o + a.length) = w := by rw [← List.drop_drop, e, List.drop_left' hul]
        obtain ⟨las, g1, g2⟩ := fieldsK_lits hk vs fs _ b h4 (by rw [e2]; exact hw)
        refine ⟨u.map litV :: las, ?_, ?_⟩
        · rw [List.mapM_cons, e1, hk _ _ _ h2 hu, g1]; rfl
        · rw [List.flatten_cons, g2, e2, e, List.map_append]
      · cases h
    · cases h
theorem array_lits {ks : List Kd} {c : Nat} {K : List Value → Option (List Lit)} (hK : ∀ us, okL ks us → K us = some (us.map litV)) (hc : ks.length = c) (vs : List Value) : ∀ (n s : Nat), okL (List.replicate n ks).flatten (vs.drop (s * c)) →
    ∃ las, (List.range' s n).mapM (fun i => K ((vs.drop (i * c)).take c)) = some las ∧ las.flatten = (vs.drop (s * c)).map litV
  | 0, s, h => by
    have h : vs.drop (s * c) = [] := h
    exact ⟨[], rfl, by rw [h]; rfl⟩
  | n + 1, s, h => by
    rw [List.replicate_succ, List.flatten_cons] at h
    obtain ⟨u, w, e, hu, hw⟩ := okL_app h
    have hul := okL_len hu
    have e1 : (vs.drop (s * c)).take c = u := by rw [e, List.take_left' (by omega)]
    have e2 : vs.drop ((s + 1) * c) = w := by rw [Nat.add_mul, Nat.one_mul, ← List.drop_drop, e, List.drop_left' (by omega)]
    obtain ⟨las, g1, g2⟩ := array_lits hK hc vs n (s + 1) (by rw [e2]; exact hw)
    refine ⟨u.map litV :: las, ?_, ?_⟩
    · rw [List.range'_succ, List.mapM_cons, e1, hK _ hu, g1]; rfl
    · rw [List.flatten_cons, g2, e2, e, List.map_append]
theorem kinds_lits : ∀ (m : Nat) (t : TypeId) (ks : List Kd) (us : List Value), kinds P m t = some ks → okL ks us → P.keyLits m t us = some (us.map litV)
  | 0, _, _, _, h, _ => by cases h
  | m + 1, t, ks, us, h, hu => by
    unfold kinds at h
    have hl := okL_len hu
    split at h
    · rename_i hy
      cases h
      obtain ⟨v, r, rfl, ⟨b, rfl⟩, hr⟩ := hu
      have hr : r = [] := hr
      subst hr
      simp [Program.keyLits, hy, litV]
    · rename_i q hy
      cases h
      obtain ⟨v, r, rfl, ⟨z, rfl, hz⟩, hr⟩ := hu
      have hr : r = [] := hr
      subst hr
      simp [Program.keyLits, hy, litV, hz]
    · rename_i n e hy
      split at h
      · rename_i ks0 hk0
        split at h
        · rename_i hc
          cases h
          have hlen : (List.replicate n ks0).flatten.length = n * ks0.length := by simp
          unfold Program.keyLits
          rw [hy]
          have := array_lits (K := P.keyLits m e) (fun us hu => kinds_lits m e ks0 us hk0 hu) hc.1 us n 0 (by simpa using hu)
          obtain ⟨las, g1, g2⟩ := this
          simp only []
          rw [if_pos (by rw [hl, hlen]; exact hc.2), List.range_eq_range', g1]
          simp [g2]
        · cases h
      · cases h
    · rename_i fs hy
      split at h
      · rename_i ks0 hk0
        split at h
        · rename_i hc
          cases h
          unfold Program.keyLits
          rw [hy]
          obtain ⟨las, g1, g2⟩ := fieldsK_lits (K := P.keyLits m) (fun t ks us h1 h2 => kinds_lits m t ks us h1 h2) us fs.toList 0 ks hk0 (by simpa using hu)
          simp only []
          rw [if_pos ⟨by rw [hl]; exact hc.1, hc.2⟩, g1]
          simp [g2]
        · cases h
      · cases h
    · cases h
def wideT (P : Program) (t : TypeId) : Bool := match P.underlying t with | some (.array _ _) => true | some (.struct _) => true | _ => false
def scB (P : Program) (t : TypeId) (ks : List Kd) : Bool := P.keyTypeAt 8 t && wideT P t && !P.eqGuardType P.depth t && decide (kinds P 8 t = some ks) && Nat.beq ks.length (P.cellsOf t)
theorem formed_wide {us : List Value} (h : wideT P t = true) (hl : us.length = P.cellsOf t) : (Value.agg us.toArray).formed P t = true := by
  unfold wideT at h
  split at h
  · rename_i hy; simp [Value.formed, hy, hl]
  · rename_i hy; simp [Value.formed, hy, hl]
  · cases h
theorem run_scalars {ks : List Kd} (h : scB P t ks = true) {us vs : List Value} (hu : okL ks us) (hv : okL ks vs) {b : Bool} (hb : b = true ↔ us = vs) (w : World) : (Op.equalIn 10000 t (.agg us.toArray) (.agg vs.toArray)).run P w = .ok b w := by
  unfold scB at h
  simp only [Bool.and_eq_true, Bool.not_eq_true', decide_eq_true_eq] at h
  obtain ⟨⟨⟨⟨h1, h2⟩, h3⟩, h4⟩, h5⟩ := h
  have h5 := Nat.eq_of_beq_eq_true h5
  have hE : EqAt P 10000 t := run_equalIn_deep 9992 8 t h1
  obtain ⟨r, hr, hiff⟩ := hE w 8 8 _ _ _ _ (formed_wide (us := us) h2 (by rw [okL_len hu, h5])) (formed_wide (us := vs) h2 (by rw [okL_len hv, h5])) (kinds_lits 8 t ks _ h4 (by simpa [Value.cells] using hu)) (kinds_lits 8 t ks _ h4 (by simpa [Value.cells] using hv))
  rw [hr]
  have e : r = b := by
    rw [Bool.eq_iff_iff, hiff, hb]
    simpa [Value.cells] using litV_inj hu hv
  rw [e]
theorem eqSc {ks : List Kd} (h : scB P t ks = true) {xs ys : List D} {us vs : List Value} (fx : FlatVs xs us) (fy : FlatVs ys vs) (hu : okL ks us) (hv : okL ks vs) {b : Bool} (hb : b = true ↔ us = vs) :
    Does P (.binOp .eql t x y t') ty L n [.d (.agg xs), .d (.agg ys)] e0 (.d (.v (.bool b))) :=
  does_ra2 rfl fun o w F ρ ev u v ho h1 h2 hu' hv' => by
    have := FlatW.eq (.d (.agg fx)) hu'
    subst this
    have := FlatW.eq (.d (.agg fy)) hv'
    subst this
    have hg : P.eqGuardType P.depth t = false := by
      unfold scB at h
      simp only [Bool.and_eq_true, Bool.not_eq_true'] at h
      exact h.1.1.2
    exact exec_eq ho h1 h2 (run_eqGuard_agg w .eql _ _ _ _ _ hg) (by rw [run_eql_struct, run_scalars h hu hv hb]; rfl)
theorem neSc {ks : List Kd} (h : scB P t ks = true) {xs ys : List D} {us vs : List Value} (fx : FlatVs xs us) (fy : FlatVs ys vs) (hu : okL ks us) (hv : okL ks vs) {b : Bool} (hb : b = true ↔ us = vs) :
    Does P (.binOp .neq t x y t') ty L n [.d (.agg xs), .d (.agg ys)] e0 (.d (.v (.bool (!b)))) :=
  does_ra2 rfl fun o w F ρ ev u v ho h1 h2 hu' hv' => by
    have := FlatW.eq (.d (.agg fx)) hu'
    subst this
    have := FlatW.eq (.d (.agg fy)) hv'
    subst this
    have hg : P.eqGuardType P.depth t = false := by
      unfold scB at h
      simp only [Bool.and_eq_true, Bool.not_eq_true'] at h
      exact h.1.1.2
    exact exec_eq ho h1 h2 (run_eqGuard_agg w .neq _ _ _ _ _ hg) (by rw [run_neq_struct, run_scalars h hu hv hb]; rfl)
end
end Go.Proofs.Ytbjmdnemeidpjaa
/- Cells are compared; Merge. -/
namespace Go.Proofs.Ytbjmdnemeidpjaa
set_option linter.unusedSimpArgs false
set_option linter.unusedVariables false
open Go.RowKit
set_option maxRecDepth 100000
def uv (z : Int) : Value := .int .u64 z
def clV (c : Cel) : List Value := i64v c.n :: i64v (hiZ c.s) :: uv (loZ c.s) :: i64v c.mn :: i64v c.mx :: i64v c.ce :: i64v c.po :: c.h.map i64v
theorem cR_flat (c : Cel) : FlatVs (cR c) (clV c) := .cons (.v _) rfl (.cons (.v _) rfl (.cons (.v _) rfl (.cons (.v _) rfl (.cons (.v _) rfl (.cons (.v _) rfl (.cons (.v _) rfl (hR_flat c.h)))))))
theorem cD_flat (c : Cel) : FlatV (cD c) (.agg (clV c).toArray) := .agg (cR_flat c)
theorem wf64 {z : Int} (h : in64 z) : (Lit.int .i64 z).wf = true := by
  unfold in64 at h
  simp only [Lit.wf, Bool.and_eq_true, decide_eq_true_eq]
  exact ⟨h.1, h.2⟩
theorem wfu {z : Int} (h : 0 ≤ z ∧ z < word) : (Lit.int .u64 z).wf = true := by
  unfold word at h
  simp only [Lit.wf, Bool.and_eq_true, decide_eq_true_eq]
  exact ⟨h.1, Int.le_of_lt_add_one h.2⟩
abbrev kC : List Kd := some .i64 :: some .i64 :: some .u64 :: some .i64 :: some .i64 :: some .i64 :: some .i64 :: List.replicate 65 (some .i64)
theorem okL_longs : ∀ {l : List Int} {n : Nat}, l.length = n → (∀ z ∈ l, in64 z) → okL (List.replicate n (some .i64)) (l.map i64v)
  | [], 0, _, _ => rfl
  | z :: l, n + 1, h, hx => ⟨_, _, rfl, ⟨z, rfl, wf64 (hx z (List.mem_cons_self ..))⟩, okL_longs (by simpa using h) fun y hy => hx y (List.mem_cons_of_mem _ hy)⟩
  | [], n + 1, h, _ => by simp at h
  | _ :: _, 0, h, _ => by simp at h
theorem clV_ok {c : Cel} (h : CelOK c) : okL kC (clV c) :=
  ⟨_, _, rfl, ⟨_, rfl, wf64 h.n⟩, _, _, rfl, ⟨_, rfl, wf64 h.s⟩, _, _, rfl, ⟨_, rfl, wfu (by unfold loZ word; omega)⟩, _, _, rfl, ⟨_, rfl, wf64 h.mn⟩, _, _, rfl, ⟨_, rfl, wf64 h.mx⟩, _, _, rfl, ⟨_, rfl, wf64 h.ce⟩, _, _, rfl, ⟨_, rfl, wf64 h.po⟩, okL_longs h.hl h.hx⟩
theorem i64v_inj {a b : Int} (h : i64v a = i64v b) : a = b := by unfold i64v at h; injection h
theorem clV_inj (c d : Cel) : decide (c = d) = true ↔ clV c = clV d := by
  rw [decide_eq_true_eq]
  refine ⟨fun h => by rw [h], fun h => ?_⟩
  unfold clV uv at h
  simp only [List.cons.injEq, Value.int.injEq, true_and] at h
  obtain ⟨h1, h2, h3, h4, h5, h6, h7, h8⟩ := h
  refine Cel.ext' (i64v_inj h1) ?_ (i64v_inj h4) (i64v_inj h5) (i64v_inj h6) (i64v_inj h7) ?_
  · rw [← wide_split c.s, ← wide_split d.s, i64v_inj h2, h3]
  · exact (List.map_inj_right (fun a b q => i64v_inj q)).1 h8
section
variable {L : List AObj} {ty n : Nat} {x y : Operand} {t' : TypeId} {c d : Cel}
theorem scC : scB Try.prog 29 kC = true := by kernel_rfl
theorem scF : scB Try.prog 32 kC = true := by kernel_rfl
theorem eqCC (hc : CelOK c) (hd : CelOK d) : Does Try.prog (.binOp .eql 29 x y t') ty L n [.d (cD c), .d (cD d)] e0 (bA (decide (c = d))) := eqSc scC (cR_flat c) (cR_flat d) (clV_ok hc) (clV_ok hd) (clV_inj c d)
theorem neCC (hc : CelOK c) (hd : CelOK d) : Does Try.prog (.binOp .neq 29 x y t') ty L n [.d (cD c), .d (cD d)] e0 (bA (!decide (c = d))) := neSc scC (cR_flat c) (cR_flat d) (clV_ok hc) (clV_ok hd) (clV_inj c d)
theorem eqFF (hc : CelOK c) (hd : CelOK d) : Does Try.prog (.binOp .eql 32 x y t') ty L n [.d (cD c), .d (cD d)] e0 (bA (decide (c = d))) := eqSc scF (cR_flat c) (cR_flat d) (clV_ok hc) (clV_ok hd) (clV_inj c d)
theorem neFF (hc : CelOK c) (hd : CelOK d) : Does Try.prog (.binOp .neq 32 x y t') ty L n [.d (cD c), .d (cD d)] e0 (bA (!decide (c = d))) := neSc scF (cR_flat c) (cR_flat d) (clV_ok hc) (clV_ok hd) (clV_inj c d)
abbrev bD (b : Bool) : D := .v (.bool b)
abbrev fitB (a b c d : Bool) : List D := [bD a, bD b, bD c, bD d]
theorem fitB_flat (a b c d : Bool) : FlatVs (fitB a b c d) [.bool a, .bool b, .bool c, .bool d] := by repeat constructor
theorem neFit (a b c d : Bool) : Does Try.prog (.binOp .neq 96 x y t') ty L n [.d (.agg (fitB a b c d)), .d (.agg (fitB true true true true))] e0 (bA (!(a && b && c && d))) :=
  neSc (ks := [none, none, none, none]) (by kernel_rfl) (fitB_flat ..) (fitB_flat ..) ⟨_, _, rfl, ⟨_, rfl⟩, _, _, rfl, ⟨_, rfl⟩, _, _, rfl, ⟨_, rfl⟩, _, _, rfl, ⟨_, rfl⟩, rfl⟩ ⟨_, _, rfl, ⟨_, rfl⟩, _, _, rfl, ⟨_, rfl⟩, _, _, rfl, ⟨_, rfl⟩, _, _, rfl, ⟨_, rfl⟩, rfl⟩
    (by cases a <;> cases b <;> cases c <;> cases d <;> simp)
end
end Go.Proofs.Ytbjmdnemeidpjaa
/- Merge of cells, its plain part. -/
namespace Go.Proofs.Ytbjmdnemeidpjaa
set_option linter.unusedSimpArgs false
set_option linter.unusedVariables false
open Go.RowKit
set_option maxRecDepth 100000
theorem full_succ {l : List Cel} {k : Nat} {c : Cel} (h : l[k]? = some c) : full (l.take (k + 1)) = full (l.take k) ++ (if c.n = 0 then [] else [c]) := by
  obtain ⟨hk, rfl⟩ := List.getElem?_eq_some_iff.1 h
  unfold full
  rw [List.take_succ_eq_append_getElem hk, List.filter_append]
  congr 1
  by_cases e : l[k].n = 0
  · rw [if_pos e]; simp [e]
  · rw [if_neg e]; simp [e]
theorem sumN_eq (l : List Cel) : sumBy (·.n) l = sumN l := rfl
theorem sumAt_le {l : List Cel} (hr : ∀ c ∈ l, RightC c) (hl : ∀ c ∈ l, c.h.length = 65) {k : Nat} (hk : k < 65) : sumAt (l.map (·.h)) k ≤ sumN l := by
  induction l with
  | nil => exact Int.le_refl _
  | cons c l ih =>
    have := ih (fun d hd => hr d (List.mem_cons_of_mem _ hd)) (fun d hd => hl d (List.mem_cons_of_mem _ hd))
    have h1 := (hAt_le (hr c (List.mem_cons_self ..)) (hl c (List.mem_cons_self ..)) hk).2
    unfold hAt at h1
    unfold sumAt sumN at *
    simp only [List.map_cons, List.sum_cons] at *
    omega
theorem merge_hist_fine {l : List Cel} (hr : ∀ c ∈ l, RightC c) (hl : ∀ c ∈ l, c.h.length = 65) (hn : sumN l ≤ big) : mergeE (l.map (·.h)) = 0 ∧ mergeR (l.map (·.h)) = mergeL (l.map (·.h)) := by
  refine merge_fine ?_ fun k hk => ?_
  · rw [List.all_map]
    exact List.all_eq_true.2 fun c hc => (hr c hc).ok
  · have := sumAt_le hr hl hk
    unfold big at hn
    omega
theorem fits_iff {l : List Cel} : fitsC l = (decide (sumN l ≤ 9223372036854775807) && decide (sumCe l ≤ 9223372036854775807) && decide (sumPo l ≤ 9223372036854775807) && decide (in128 (sumS l))) := by
  unfold fitsC big
  rw [Bool.eq_iff_iff]
  simp only [Bool.and_eq_true, decide_eq_true_eq, and_assoc]
theorem all_take_right {l : List Cel} {k : Nat} {c : Cel} (h : l[k]? = some c) : (l.take (k + 1)).all rightC = ((l.take k).all rightC && rightC c) := all_take_succ h
theorem ite_tup {p : Prop} [Decidable p] (a : Int) : (if p then (.tup [iA a, bA true] : AV) else .tup [iA 0, bA false]) = .tup [iA (if p then a else 0), bA (decide p)] := by
  by_cases h : p
  · rw [if_pos h, if_pos h, decide_eq_true h]
  · rw [if_neg h, if_neg h, decide_eq_false h]
theorem ite_tupW {p : Prop} [Decidable p] (a : Int) : (if p then (.tup [.d (wD a), bA true] : AV) else .tup [.d (wD 0), bA false]) = .tup [.d (wD (if p then a else 0)), bA (decide p)] := by
  by_cases h : p
  · rw [if_pos h, if_pos h, decide_eq_true h]
  · rw [if_neg h, if_neg h, decide_eq_false h]
end Go.Proofs.Ytbjmdnemeidpjaa
/- Merge of cells. -/
namespace Go.Proofs.Ytbjmdnemeidpjaa
set_option linter.unusedSimpArgs false
set_option linter.unusedVariables false
open Go.RowKit
set_option maxRecDepth 100000
theorem noB {b : Bool} (h : b = false) (q : (!b) = false) : False := by rw [h] at q; exact Bool.noConfusion q
theorem noLt {l : List Cel} (q : decide ((l.length : Int) < ((l.map cR).length : Int)) = true) : False := by
  have := of_decide_eq_true q
  rw [List.length_map] at this
  omega
theorem noGe {l : List Cel} {k : Nat} (h : k < l.length) (q : decide ((k : Int) < ((l.map cR).length : Int)) = false) : False := by
  have := of_decide_eq_false q
  rw [List.length_map] at this
  omega
theorem fitsZ : List.map D.v (tiOf Try.prog 96).zero = fitB false false false false := by kernel_rfl
theorem fitz1C {x : D} : 0 + 0 + [x].length ≤ (List.map D.v (tiOf Try.prog 29).zero).length := by rw [zeC]; exact fit1 rfl (by decide)
theorem zset_nC (x : Int) : sets (List.map D.v (tiOf Try.prog 29).zero) (0 + 0) [iD x] = cR ⟨x, 0, 0, 0, 0, 0, z65⟩ := by rw [zeC]; rfl
theorem fit2 {c : Cel} {k : Nat} {x y : D} (h : c.h.length = 65) (hk : k ≤ 70) : k + [x, y].length ≤ (cR c).length := by
  rw [cR_len h]; simp; omega
theorem l96 : (tiOf Try.prog 96).len = 4 := by kernel_rfl
set_option maxHeartbeats 8000000 in
theorem merge_sat_c (l : List Cel) (hl : ∀ c ∈ l, CelOK c) (hn : l.length ≤ 1000) : Sat Try.prog 19 [.d (.sl 72 (l.map cR))] [] (.tup [.d (cD (mergeC l).1), iA (mergeC l).2]) [] := by
  have hm : (l.map cR).length = l.length := List.length_map _
  refine sat_of_vc (T := tiOf Try.prog) (E := E0) Try.func19 rfl rfl hE0 hm0 rfl ?_
  conv => whnf
  iterate 2
    repeat (any_goals (first
      | exact True.intro
      | (refine ⟨_, drop_id, ?_⟩; conv => whnf)
      | (refine ⟨_, _, at_n, ?_⟩; conv => whnf)
      | (refine ⟨_, _, at_hi, ?_⟩; conv => whnf)
      | (refine ⟨_, _, at_lo, ?_⟩; conv => whnf)
      | (refine ⟨_, _, at_mn, ?_⟩; conv => whnf)
      | (refine ⟨_, _, at_mx, ?_⟩; conv => whnf)
      | (refine ⟨_, _, at_ce, ?_⟩; conv => whnf)
      | (refine ⟨_, _, at_po, ?_⟩; conv => whnf)
      | (refine ⟨_, whole_z sC, clenz sC, ?_⟩; conv => whnf)
      | (refine ⟨_, setzC, ?_⟩; conv => whnf)
      | (refine And.intro (clenz sC) ?_; conv => whnf)
      | (refine And.intro fitzC ?_; conv => whnf)
      | (refine ⟨_, whole_z sF, clenz sF, ?_⟩; conv => whnf)
      | (refine ⟨_, setzF, ?_⟩; conv => whnf)
      | (refine And.intro (clenz sF) ?_; conv => whnf)
      | (refine And.intro fitzF ?_; conv => whnf)
      | (refine And.intro (fit1 rfl (by decide)) ?_; conv => whnf)
      | (refine ⟨_, sum_cell s25, rfl, ?_⟩; conv => whnf)
      | (refine ⟨_, set_n _, ?_⟩; conv => whnf)
      | (refine ⟨_, set_mn _, ?_⟩; conv => whnf)
      | (refine ⟨_, set_mx _, ?_⟩; conv => whnf)
      | (refine ⟨_, set_ce _, ?_⟩; conv => whnf)
      | (refine ⟨_, set_po _, ?_⟩; conv => whnf)
      | (refine ⟨_, set_s _, ?_⟩; conv => whnf)
      | (refine ⟨_, set_hi _, ?_⟩; conv => whnf)
      | (refine ⟨_, set_lo _, ?_⟩; conv => whnf)
      | (refine And.intro (fun _ => ?_) tf; conv => whnf)
      | (refine And.intro ft (fun _ => ?_); conv => whnf)
      | (refine And.intro (by kernel_rfl) ?_; conv => whnf)
      | (refine And.intro (by decide) ?_; conv => whnf)
      | (refine And.intro (fun _ => ?_) (fun h => absurd h (by decide)); conv => whnf)
      | (refine And.intro (fun h => absurd h (by decide)) (fun _ => ?_); conv => whnf)
      | (refine And.intro (fun _ => ?_) (fun _ => ?_) <;> conv => whnf)))
    all_goals try (exfalso; simp only [decide_eq_true_eq, decide_eq_false_iff_not, Bool.not_eq_true', Bool.not_eq_false', Bool.not_eq_true, Bool.not_eq_false, beq_iff_eq, bne_iff_ne, beq_eq_false_iff_ne, bne_eq_false_iff_eq, ne_eq, Decidable.not_not] at *; first | omega | contradiction | (simp_all; done) | (simp_all; omega))
    all_goals try (refine Or.inl ?_; conv => whnf)
  refine ⟨Nat, fun k => k ≤ l.length ∧ (l.take k).all rightC = true, fun k => ([(16, iA k), (15, iA (l.map cR).length), (14, .d (.sl 72 (l.map cR))), (2, .ptr 0 0), (0, .d (.sl 72 (l.map cR)))], [.row (cR zC)]), fun k => l.length - k, ⟨0, ⟨Nat.zero_le _, rfl⟩, ?_⟩, ?_⟩
  · all_goals refine ⟨[], ?_⟩
    repeat (any_goals (first | exact True.intro | exact rfl | with_reducible_and_instances rfl | exact (by kernel_rfl) | refine And.intro ?_ ?_))
    all_goals conv => whnf
  rintro k ⟨hk, hr⟩
  conv => whnf
  by_cases hlt : k < l.length
  · have hx : l[k]? = some l[k] := List.getElem?_eq_getElem hlt
    have hc := hl _ (List.getElem_mem hlt)
    have ha := all_take_right hx
    generalize l[k] = c at hx hc ha
    have hcl := hc.hl
    have r1 := right_sat_c c hc
    by_cases q : rightC c = true
    · rw [q] at r1 ha
      iterate 4
        repeat (any_goals (first
          | exact True.intro
          | (refine ⟨k, _, rfl, map_get hx, ?_⟩; conv => whnf)
          | (refine ⟨_, drop_id, ?_⟩; conv => whnf)
          | (refine ⟨_, _, at_n, ?_⟩; conv => whnf)
          | (refine ⟨_, _, at_hi, ?_⟩; conv => whnf)
          | (refine ⟨_, _, at_lo, ?_⟩; conv => whnf)
          | (refine ⟨_, _, at_mn, ?_⟩; conv => whnf)
          | (refine ⟨_, _, at_mx, ?_⟩; conv => whnf)
          | (refine ⟨_, _, at_ce, ?_⟩; conv => whnf)
          | (refine ⟨_, _, at_po, ?_⟩; conv => whnf)
          | (refine ⟨_, whole_z sC, clenz sC, ?_⟩; conv => whnf)
          | (refine ⟨_, setzC, ?_⟩; conv => whnf)
          | (refine And.intro (clenz sC) ?_; conv => whnf)
          | (refine And.intro fitzC ?_; conv => whnf)
          | (refine ⟨_, whole_cell sC hcl, clen sC hcl, ?_⟩; conv => whnf)
          | (refine And.intro (clen sC hcl) ?_; conv => whnf)
          | (refine And.intro (fitC hcl) ?_; conv => whnf)
          | (refine ⟨_, setC hcl, ?_⟩; conv => whnf)
          | (refine ⟨_, whole_z sF, clenz sF, ?_⟩; conv => whnf)
          | (refine ⟨_, setzF, ?_⟩; conv => whnf)
          | (refine And.intro (clenz sF) ?_; conv => whnf)
          | (refine And.intro fitzF ?_; conv => whnf)
          | (refine ⟨_, whole_cell sF hcl, clen sF hcl, ?_⟩; conv => whnf)
          | (refine And.intro (clen sF hcl) ?_; conv => whnf)
          | (refine And.intro (fitF hcl) ?_; conv => whnf)
          | (refine ⟨_, setF hcl, ?_⟩; conv => whnf)
          | (refine And.intro (fit1 hcl (by decide)) ?_; conv => whnf)
          | (refine And.intro (fit1 rfl (by decide)) ?_; conv => whnf)
          | (refine ⟨_, sum_cell s25, rfl, ?_⟩; conv => whnf)
          | (refine ⟨_, set_n _, ?_⟩; conv => whnf)
          | (refine ⟨_, set_mn _, ?_⟩; conv => whnf)
          | (refine ⟨_, set_mx _, ?_⟩; conv => whnf)
          | (refine ⟨_, set_ce _, ?_⟩; conv => whnf)
          | (refine ⟨_, set_po _, ?_⟩; conv => whnf)
          | (refine ⟨_, set_s _, ?_⟩; conv => whnf)
          | (refine ⟨_, set_hi _, ?_⟩; conv => whnf)
          | (refine ⟨_, set_lo _, ?_⟩; conv => whnf)
          | (refine And.intro (fun _ => ?_) tf; conv => whnf)
          | (refine And.intro ft (fun _ => ?_); conv => whnf)
          | (refine And.intro (by kernel_rfl) ?_; conv => whnf)
          | (refine And.intro (by decide) ?_; conv => whnf)
          | (refine And.intro (fun _ => ?_) (fun h => absurd h (by decide)); conv => whnf)
          | (refine And.intro (fun h => absurd h (by decide)) (fun _ => ?_); conv => whnf)
          | (refine And.intro (fun _ => ?_) (fun _ => ?_) <;> conv => whnf)
          | (refine ⟨_, _, r1.pu rfl rfl, ?_⟩; conv => whnf)))
        all_goals try (exfalso; simp only [decide_eq_true_eq, decide_eq_false_iff_not, Bool.not_eq_true', Bool.not_eq_false', Bool.not_eq_true, Bool.not_eq_false, beq_iff_eq, bne_iff_ne, beq_eq_false_iff_ne, bne_eq_false_iff_eq, ne_eq, Decidable.not_not] at *; first | omega | contradiction | (simp_all; done) | (simp_all; omega))
        all_goals try (refine Or.inl ?_; conv => whnf)
      refine ⟨k + 1, ⟨hlt, by rw [ha, hr]; rfl⟩, show l.length - (k + 1) < l.length - k by omega, ?_⟩
      all_goals refine ⟨[], ?_⟩
      repeat (any_goals (first | exact True.intro | exact rfl | with_reducible_and_instances rfl | exact (by kernel_rfl) | refine And.intro ?_ ?_))
      all_goals conv => whnf
      exact wk1 (by omega)
    · have q : rightC c = false := by simpa using q
      rw [q] at r1
      have hall : l.all rightC = false := by
        rw [← List.take_append_drop (k + 1) l, List.all_append, ha, q, Bool.and_false, Bool.false_and]
      have e : mergeC l = (zC, 10) := by unfold mergeC; rw [if_pos hall]
      iterate 4
        repeat (any_goals (first
          | exact True.intro
          | (refine ⟨k, _, rfl, map_get hx, ?_⟩; conv => whnf)
          | (refine ⟨_, drop_id, ?_⟩; conv => whnf)
          | (refine ⟨_, _, at_n, ?_⟩; conv => whnf)
          | (refine ⟨_, _, at_hi, ?_⟩; conv => whnf)
          | (refine ⟨_, _, at_lo, ?_⟩; conv => whnf)
          | (refine ⟨_, _, at_mn, ?_⟩; conv => whnf)
          | (refine ⟨_, _, at_mx, ?_⟩; conv => whnf)
          | (refine ⟨_, _, at_ce, ?_⟩; conv => whnf)
          | (refine ⟨_, _, at_po, ?_⟩; conv => whnf)
          | (refine ⟨_, whole_z sC, clenz sC, ?_⟩; conv => whnf)
          | (refine ⟨_, setzC, ?_⟩; conv => whnf)
          | (refine And.intro (clenz sC) ?_; conv => whnf)
          | (refine And.intro fitzC ?_; conv => whnf)
          | (refine ⟨_, whole_cell sC hcl, clen sC hcl, ?_⟩; conv => whnf)
          | (refine And.intro (clen sC hcl) ?_; conv => whnf)
          | (refine And.intro (fitC hcl) ?_; conv => whnf)
          | (refine ⟨_, setC hcl, ?_⟩; conv => whnf)
          | (refine ⟨_, whole_z sF, clenz sF, ?_⟩; conv => whnf)
          | (refine ⟨_, setzF, ?_⟩; conv => whnf)
          | (refine And.intro (clenz sF) ?_; conv => whnf)
          | (refine And.intro fitzF ?_; conv => whnf)
          | (refine ⟨_, whole_cell sF hcl, clen sF hcl, ?_⟩; conv => whnf)
          | (refine And.intro (clen sF hcl) ?_; conv => whnf)
          | (refine And.intro (fitF hcl) ?_; conv => whnf)
          | (refine ⟨_, setF hcl, ?_⟩; conv => whnf)
          | (refine And.intro (fit1 hcl (by decide)) ?_; conv => whnf)
          | (refine And.intro (fit1 rfl (by decide)) ?_; conv => whnf)
          | (refine ⟨_, sum_cell s25, rfl, ?_⟩; conv => whnf)
          | (refine ⟨_, set_n _, ?_⟩; conv => whnf)
          | (refine ⟨_, set_mn _, ?_⟩; conv => whnf)
          | (refine ⟨_, set_mx _, ?_⟩; conv => whnf)
          | (refine ⟨_, set_ce _, ?_⟩; conv => whnf)
          | (refine ⟨_, set_po _, ?_⟩; conv => whnf)
          | (refine ⟨_, set_s _, ?_⟩; conv => whnf)
          | (refine ⟨_, set_hi _, ?_⟩; conv => whnf)
          | (refine ⟨_, set_lo _, ?_⟩; conv => whnf)
          | (refine And.intro (fun _ => ?_) tf; conv => whnf)
          | (refine And.intro ft (fun _ => ?_); conv => whnf)
          | (refine And.intro (by kernel_rfl) ?_; conv => whnf)
          | (refine And.intro (by decide) ?_; conv => whnf)
          | (refine And.intro (fun _ => ?_) (fun h => absurd h (by decide)); conv => whnf)
          | (refine And.intro (fun h => absurd h (by decide)) (fun _ => ?_); conv => whnf)
          | (refine And.intro (fun _ => ?_) (fun _ => ?_) <;> conv => whnf)
          | (refine ⟨_, _, r1.pu rfl rfl, ?_⟩; conv => whnf)))
        all_goals try (exfalso; simp only [decide_eq_true_eq, decide_eq_false_iff_not, Bool.not_eq_true', Bool.not_eq_false', Bool.not_eq_true, Bool.not_eq_false, beq_iff_eq, bne_iff_ne, beq_eq_false_iff_ne, bne_eq_false_iff_eq, ne_eq, Decidable.not_not] at *; first | omega | contradiction | (simp_all; done) | (simp_all; omega))
        all_goals try (refine Or.inl ?_; conv => whnf)
      rw [e]
      all_goals refine ⟨[], ?_⟩
      repeat (any_goals (first | exact True.intro | exact rfl | with_reducible_and_instances rfl | exact (by kernel_rfl) | refine And.intro ?_ ?_))
      all_goals conv => whnf
  · have hke : k = l.length := by omega
    subst hke
    rw [List.take_length] at hr
    have hR : ∀ c ∈ l, RightC c := fun c hc => right_iff.1 (List.all_eq_true.1 hr c hc)
    have t1 := total_cells 47 (·.n) l hn (fun c hc => ⟨(hR c hc).n, (hl c hc).n⟩) (fun c _ => tot_n c) (by kernel_rfl)
    have t2 := total_cells 48 (·.ce) l hn (fun c hc => ⟨(hR c hc).ce, (hl c hc).ce⟩) (fun c _ => tot_ce c) (by kernel_rfl)
    have t3 := total_cells 49 (·.po) l hn (fun c hc => ⟨(hR c hc).po, (hl c hc).po⟩) (fun c _ => tot_po c) (by kernel_rfl)
    have t4 := sums_sat l hl hn
    have hf := fits_iff (l := l)
    by_cases hfit : fitsC l = true
    case neg =>
      have hfit : fitsC l = false := by simpa using hfit
      have e : mergeC l = (zC, 12) := by unfold mergeC; rw [if_neg (by rw [hr]; simp), if_pos hfit]
      rw [ite_tup] at t1 t2 t3
      rw [ite_tupW] at t4
      rw [hfit] at hf
      change false = (decide (sumBy (·.n) l ≤ 9223372036854775807) && decide (sumBy (·.ce) l ≤ 9223372036854775807) && decide (sumBy (·.po) l ≤ 9223372036854775807) && decide (in128 (sumS l))) at hf
      generalize decide (sumBy (·.n) l ≤ 9223372036854775807) = b1 at *
      generalize decide (sumBy (·.ce) l ≤ 9223372036854775807) = b2 at *
      generalize decide (sumBy (·.po) l ≤ 9223372036854775807) = b3 at *
      generalize decide (in128 (sumS l)) = b4 at *
      generalize (if sumBy (·.n) l ≤ 9223372036854775807 then sumBy (·.n) l else 0) = n1 at *
      generalize (if sumBy (·.ce) l ≤ 9223372036854775807 then sumBy (·.ce) l else 0) = n2 at *
      generalize (if sumBy (·.po) l ≤ 9223372036854775807 then sumBy (·.po) l else 0) = n3 at *
      generalize (if in128 (sumS l) then sumS l else 0) = n4 at *
      have hb := hide hf.symm
      clear hf
      iterate 3
        repeat (any_goals (first
          | exact True.intro
          | (refine ⟨0, rfl, Nat.lt_of_lt_of_eq (by decide) l96.symm, ?_⟩; conv => whnf)
          | (refine ⟨1, rfl, Nat.lt_of_lt_of_eq (by decide) l96.symm, ?_⟩; conv => whnf)
          | (refine ⟨2, rfl, Nat.lt_of_lt_of_eq (by decide) l96.symm, ?_⟩; conv => whnf)
          | (refine ⟨3, rfl, Nat.lt_of_lt_of_eq (by decide) l96.symm, ?_⟩; conv => whnf)
          | (refine And.intro fitz1C ?_; conv => whnf)
          | (refine ⟨_, zset_nC _, ?_⟩; conv => whnf)
          | (refine And.intro (fit2 rfl (by decide)) ?_; conv => whnf)
          | (refine ⟨_, drop_id, ?_⟩; conv => whnf)
          | (refine ⟨_, _, at_n, ?_⟩; conv => whnf)
          | (refine ⟨_, _, at_hi, ?_⟩; conv => whnf)
          | (refine ⟨_, _, at_lo, ?_⟩; conv => whnf)
          | (refine ⟨_, _, at_mn, ?_⟩; conv => whnf)
          | (refine ⟨_, _, at_mx, ?_⟩; conv => whnf)
          | (refine ⟨_, _, at_ce, ?_⟩; conv => whnf)
          | (refine ⟨_, _, at_po, ?_⟩; conv => whnf)
          | (refine ⟨_, whole_z sC, clenz sC, ?_⟩; conv => whnf)
          | (refine ⟨_, setzC, ?_⟩; conv => whnf)
          | (refine And.intro (clenz sC) ?_; conv => whnf)
          | (refine And.intro fitzC ?_; conv => whnf)
          | (refine ⟨_, whole_z sF, clenz sF, ?_⟩; conv => whnf)
          | (refine ⟨_, setzF, ?_⟩; conv => whnf)
          | (refine And.intro (clenz sF) ?_; conv => whnf)
          | (refine And.intro fitzF ?_; conv => whnf)
          | (refine And.intro (fit1 rfl (by decide)) ?_; conv => whnf)
          | (refine ⟨_, sum_cell s25, rfl, ?_⟩; conv => whnf)
          | (refine ⟨_, set_n _, ?_⟩; conv => whnf)
          | (refine ⟨_, set_mn _, ?_⟩; conv => whnf)
          | (refine ⟨_, set_mx _, ?_⟩; conv => whnf)
          | (refine ⟨_, set_ce _, ?_⟩; conv => whnf)
          | (refine ⟨_, set_po _, ?_⟩; conv => whnf)
          | (refine ⟨_, set_s _, ?_⟩; conv => whnf)
          | (refine ⟨_, set_hi _, ?_⟩; conv => whnf)
          | (refine ⟨_, set_lo _, ?_⟩; conv => whnf)
          | (refine And.intro (fun _ => ?_) tf; conv => whnf)
          | (refine And.intro ft (fun _ => ?_); conv => whnf)
          | (refine And.intro (by kernel_rfl) ?_; conv => whnf)
          | (refine And.intro (by decide) ?_; conv => whnf)
          | (refine And.intro (fun _ => ?_) (fun h => absurd h (by decide)); conv => whnf)
          | (refine And.intro (fun h => absurd h (by decide)) (fun _ => ?_); conv => whnf)
          | (refine And.intro (fun _ => ?_) (fun _ => ?_) <;> conv => whnf)
          | (refine ⟨_, _, t1.pu rfl rfl, ?_⟩; conv => whnf)
          | (refine ⟨_, _, t2.pu rfl rfl, ?_⟩; conv => whnf)
          | (refine ⟨_, _, t3.pu rfl rfl, ?_⟩; conv => whnf)
          | (refine ⟨_, _, t4.pu rfl rfl, ?_⟩; conv => whnf)
          | (refine ⟨_, _, neFit b1 b2 b3 b4, ?_⟩; conv => whnf)))
        all_goals try (refine Or.inl ?_; conv => whnf)
      all_goals try exact (noLt ‹_›).elim
      all_goals try exact (noB hb.out ‹_›).elim
      rw [e]
      all_goals refine ⟨[], ?_⟩
      repeat (any_goals (first | exact True.intro | exact rfl | with_reducible_and_instances rfl | exact (by kernel_rfl) | refine And.intro ?_ ?_))
      all_goals conv => whnf
    rw [hfit] at hf
    have hf := hf.symm
    simp only [Bool.and_eq_true, decide_eq_true_eq] at hf
    obtain ⟨⟨⟨f1, f2⟩, f3⟩, f4⟩ := hf
    rw [if_pos (show sumBy (·.n) l ≤ 9223372036854775807 from f1)] at t1
    rw [if_pos (show sumBy (·.ce) l ≤ 9223372036854775807 from f2)] at t2
    rw [if_pos (show sumBy (·.po) l ≤ 9223372036854775807 from f3)] at t3
    rw [if_pos f4] at t4
    change Sat _ _ _ _ (.tup [iA (sumN l), bA true]) _ at t1
    change Sat _ _ _ _ (.tup [iA (sumCe l), bA true]) _ at t2
    change Sat _ _ _ _ (.tup [iA (sumPo l), bA true]) _ at t3
    obtain ⟨m1, m2⟩ := merge_hist_fine hR (fun c hc => (hl c hc).hl) (by unfold big; exact f1)
    have mh := merge_sat (l.map (·.h)) (fun h hh => by obtain ⟨c, hc, rfl⟩ := List.mem_map.1 hh; exact (hl c hc).hl) (fun h hh => by obtain ⟨c, hc, rfl⟩ := List.mem_map.1 hh; exact (hl c hc).hx) (by rw [List.length_map]; omega)
    rw [m1, m2] at mh
    have e : mergeC l = (joinC l, 0) := by unfold mergeC; rw [if_neg (by rw [hr]; simp), if_neg (by rw [hfit]; simp)]
    rw [e]
    have ej : joinC l = ⟨sumN l, sumS l, mmin ((full l).map (·.mn)), mmax ((full l).map (·.mx)), sumCe l, sumPo l, mergeL (l.map (·.h))⟩ := rfl
    rw [ej]
    have hml : (mergeL (l.map (·.h))).length = 65 := by simp [mergeL]
    generalize mergeL (l.map (·.h)) = M at *
    generalize sumN l = N at *
    generalize sumS l = S at *
    generalize sumCe l = Ce at *
    generalize sumPo l = Po at *
    iterate 3
      repeat (any_goals (first
        | exact True.intro
        | (refine ⟨0, rfl, Nat.lt_of_lt_of_eq (by decide) l96.symm, ?_⟩; conv => whnf)
        | (refine ⟨1, rfl, Nat.lt_of_lt_of_eq (by decide) l96.symm, ?_⟩; conv => whnf)
        | (refine ⟨2, rfl, Nat.lt_of_lt_of_eq (by decide) l96.symm, ?_⟩; conv => whnf)
        | (refine ⟨3, rfl, Nat.lt_of_lt_of_eq (by decide) l96.symm, ?_⟩; conv => whnf)
        | (refine And.intro fitz1C ?_; conv => whnf)
        | (refine ⟨_, zset_nC _, ?_⟩; conv => whnf)
        | (refine And.intro (fit2 rfl (by decide)) ?_; conv => whnf)
        | (refine ⟨_, drop_id, ?_⟩; conv => whnf)
        | (refine ⟨_, _, at_n, ?_⟩; conv => whnf)
        | (refine ⟨_, _, at_hi, ?_⟩; conv => whnf)
        | (refine ⟨_, _, at_lo, ?_⟩; conv => whnf)
        | (refine ⟨_, _, at_mn, ?_⟩; conv => whnf)
        | (refine ⟨_, _, at_mx, ?_⟩; conv => whnf)
        | (refine ⟨_, _, at_ce, ?_⟩; conv => whnf)
        | (refine ⟨_, _, at_po, ?_⟩; conv => whnf)
        | (refine ⟨_, whole_z sC, clenz sC, ?_⟩; conv => whnf)
        | (refine ⟨_, setzC, ?_⟩; conv => whnf)
        | (refine And.intro (clenz sC) ?_; conv => whnf)
        | (refine And.intro fitzC ?_; conv => whnf)
        | (refine ⟨_, whole_z sF, clenz sF, ?_⟩; conv => whnf)
        | (refine ⟨_, setzF, ?_⟩; conv => whnf)
        | (refine And.intro (clenz sF) ?_; conv => whnf)
        | (refine And.intro fitzF ?_; conv => whnf)
        | (refine And.intro (fit1 rfl (by decide)) ?_; conv => whnf)
        | (refine ⟨_, sum_cell s25, rfl, ?_⟩; conv => whnf)
        | (refine ⟨_, set_n _, ?_⟩; conv => whnf)
        | (refine ⟨_, set_mn _, ?_⟩; conv => whnf)
        | (refine ⟨_, set_mx _, ?_⟩; conv => whnf)
        | (refine ⟨_, set_ce _, ?_⟩; conv => whnf)
        | (refine ⟨_, set_po _, ?_⟩; conv => whnf)
        | (refine ⟨_, set_s _, ?_⟩; conv => whnf)
        | (refine ⟨_, set_hi _, ?_⟩; conv => whnf)
        | (refine ⟨_, set_lo _, ?_⟩; conv => whnf)
        | (refine And.intro (fun _ => ?_) tf; conv => whnf)
        | (refine And.intro ft (fun _ => ?_); conv => whnf)
        | (refine And.intro (by kernel_rfl) ?_; conv => whnf)
        | (refine And.intro (by decide) ?_; conv => whnf)
        | (refine And.intro (fun _ => ?_) (fun h => absurd h (by decide)); conv => whnf)
        | (refine And.intro (fun h => absurd h (by decide)) (fun _ => ?_); conv => whnf)
        | (refine And.intro (fun _ => ?_) (fun _ => ?_) <;> conv => whnf)
        | (refine ⟨_, _, t1.pu rfl rfl, ?_⟩; conv => whnf)
        | (refine ⟨_, _, t2.pu rfl rfl, ?_⟩; conv => whnf)
        | (refine ⟨_, _, t3.pu rfl rfl, ?_⟩; conv => whnf)
        | (refine ⟨_, _, t4.pu rfl rfl, ?_⟩; conv => whnf)
        | (refine ⟨_, _, neFit true true true true, ?_⟩; conv => whnf)
        | (refine ⟨_, _, mk0 65 520 (by kernel_rfl) (by omega) (by unfold maxLen; omega), ?_⟩; conv => whnf)))
      all_goals try (refine Or.inl ?_; conv => whnf)
    all_goals try exact (noLt ‹_›).elim
    all_goals try exact (noB (b := (true && true && true && true)) rfl ‹_›).elim
    refine ⟨Nat × Bool × Int × Int, fun y => y.1 ≤ l.length ∧ y.2.1 = decide (full (l.take y.1) ≠ []) ∧ y.2.2.1 = mmin ((full (l.take y.1)).map (·.mn)) ∧ y.2.2.2 = mmax ((full (l.take y.1)).map (·.mx)), fun y => ([(62, iA y.1), (61, iA (l.map cR).length), (60, .d (.sl 72 (l.map cR))), (9, bA y.2.1), (8, .own 3), (6, .ptr 1 0), (2, .ptr 0 0), (0, .d (.sl 72 (l.map cR)))], [.row (cR zC), .row (cR ⟨N, S, y.2.2.1, y.2.2.2, Ce, Po, z65⟩), .dead, .sl 65 ((l.take y.1).map fun c => Go.Proofs.Ytbjmdnemeidpjaa.hR c.h)]), fun y => l.length - y.1, ⟨(0, false, 0, 0), ⟨Nat.zero_le _, rfl, rfl, rfl⟩, ?_⟩, ?_⟩
    · all_goals refine ⟨[], ?_⟩
      repeat (any_goals (first | exact True.intro | exact rfl | with_reducible_and_instances rfl | exact (by kernel_rfl) | refine And.intro ?_ ?_))
      all_goals conv => whnf
    rintro ⟨k, sm, a, b⟩ ⟨hk, hsm, ha, hb⟩
    have hk : k ≤ l.length := hk
    have hsm : sm = decide (full (l.take k) ≠ []) := hsm
    have ha : a = mmin ((full (l.take k)).map (·.mn)) := ha
    have hb : b = mmax ((full (l.take k)).map (·.mx)) := hb
    have hml2 : ((l.take k).map fun c => Go.Proofs.Ytbjmdnemeidpjaa.hR c.h).length = k := by simp; omega
    conv => whnf
    by_cases hlt : k < l.length
    · have hx : l[k]? = some l[k] := List.getElem?_eq_getElem hlt
      have hc := hl _ (List.getElem_mem hlt)
      have hfs := full_succ hx
      generalize l[k] = c at hx hc hfs
      have hcl := hc.hl
      have hmap : AObj.sl 65 (((l.take k).map fun c => Go.Proofs.Ytbjmdnemeidpjaa.hR c.h) ++ [Go.Proofs.Ytbjmdnemeidpjaa.hR c.h]) = .sl 65 ((l.take (k + 1)).map fun c => Go.Proofs.Ytbjmdnemeidpjaa.hR c.h) :=
        congrArg (AObj.sl 65) (map_take_succ (f := fun c : Cel => Go.Proofs.Ytbjmdnemeidpjaa.hR c.h) hx).symm
      iterate 8
        repeat (any_goals (first
          | exact True.intro
          | (refine ⟨k, _, rfl, map_get hx, ?_⟩; conv => whnf)
          | (refine ⟨_, hist_cell s69 hcl, whole_len s69 hcl, ?_⟩; conv => whnf)
          | (refine And.intro (whole_len rfl hcl) ?_; conv => whnf)
          | (refine ⟨_, drop_id, ?_⟩; conv => whnf)
          | (refine ⟨_, _, at_n, ?_⟩; conv => whnf)
          | (refine ⟨_, _, at_hi, ?_⟩; conv => whnf)
          | (refine ⟨_, _, at_lo, ?_⟩; conv => whnf)
          | (refine ⟨_, _, at_mn, ?_⟩; conv => whnf)
          | (refine ⟨_, _, at_mx, ?_⟩; conv => whnf)
          | (refine ⟨_, _, at_ce, ?_⟩; conv => whnf)
          | (refine ⟨_, _, at_po, ?_⟩; conv => whnf)
          | (refine ⟨_, whole_z sC, clenz sC, ?_⟩; conv => whnf)
          | (refine ⟨_, setzC, ?_⟩; conv => whnf)
          | (refine And.intro (clenz sC) ?_; conv => whnf)
          | (refine And.intro fitzC ?_; conv => whnf)
          | (refine ⟨_, whole_cell sC hcl, clen sC hcl, ?_⟩; conv => whnf)
          | (refine And.intro (clen sC hcl) ?_; conv => whnf)
          | (refine And.intro (fitC hcl) ?_; conv => whnf)
          | (refine ⟨_, setC hcl, ?_⟩; conv => whnf)
          | (refine ⟨_, whole_z sF, clenz sF, ?_⟩; conv => whnf)
          | (refine ⟨_, setzF, ?_⟩; conv => whnf)
          | (refine And.intro (clenz sF) ?_; conv => whnf)
          | (refine And.intro fitzF ?_; conv => whnf)
          | (refine ⟨_, whole_cell sF hcl, clen sF hcl, ?_⟩; conv => whnf)
          | (refine And.intro (clen sF hcl) ?_; conv => whnf)
          | (refine And.intro (fitF hcl) ?_; conv => whnf)
          | (refine ⟨_, setF hcl, ?_⟩; conv => whnf)
          | (refine And.intro (fit1 hcl (by decide)) ?_; conv => whnf)
          | (refine And.intro (fit1 rfl (by decide)) ?_; conv => whnf)
          | (refine ⟨_, sum_cell s25, rfl, ?_⟩; conv => whnf)
          | (refine ⟨_, set_n _, ?_⟩; conv => whnf)
          | (refine ⟨_, set_mn _, ?_⟩; conv => whnf)
          | (refine ⟨_, set_mx _, ?_⟩; conv => whnf)
          | (refine ⟨_, set_ce _, ?_⟩; conv => whnf)
          | (refine ⟨_, set_po _, ?_⟩; conv => whnf)
          | (refine ⟨_, set_s _, ?_⟩; conv => whnf)
          | (refine ⟨_, set_hi _, ?_⟩; conv => whnf)
          | (refine ⟨_, set_lo _, ?_⟩; conv => whnf)
          | (refine And.intro (fun _ => ?_) tf; conv => whnf)
          | (refine And.intro ft (fun _ => ?_); conv => whnf)
          | (refine And.intro (by kernel_rfl) ?_; conv => whnf)
          | (refine And.intro (by decide) ?_; conv => whnf)
          | (refine And.intro (fun _ => ?_) (fun h => absurd h (by decide)); conv => whnf)
          | (refine And.intro (fun h => absurd h (by decide)) (fun _ => ?_); conv => whnf)
          | (refine And.intro (fun _ => ?_) (fun _ => ?_) <;> conv => whnf)
          | (refine ⟨_, _, ap 65 520 (by kernel_rfl) rfl rfl (by simp [hml2]; omega), ?_⟩; conv => whnf)))
        all_goals try (refine Or.inl ?_; conv => whnf)
      all_goals try exact (noGe hlt ‹_›).elim
      · have q : c.n = 0 := eq_of_beq ‹(c.n == 0) = true›
        rw [if_pos q, List.append_nil] at hfs
        refine ⟨(k + 1, sm, a, b), ⟨hlt, by show sm = decide (full (l.take (k + 1)) ≠ []); rw [hfs]; exact hsm, by show a = _; rw [hfs]; exact ha, by show b = _; rw [hfs]; exact hb⟩, show l.length - (k + 1) < l.length - k by omega, ?_⟩
        all_goals refine ⟨[(3, 6)], ?_⟩
        repeat (any_goals (first | exact True.intro | exact rfl | with_reducible_and_instances rfl | exact (by kernel_rfl) | refine And.intro ?_ ?_))
        all_goals conv => whnf
        · exact wk1 (by omega)
        · exact hmap
      · have q : ¬ c.n = 0 := by have := ‹(c.n == 0) = false›; simpa using this
        have q2 : sm = false := by have := ‹(!sm) = true›; simpa using this
        rw [if_neg q] at hfs
        have hz : full (l.take k) = [] := by rw [q2] at hsm; simpa using hsm.symm
        rw [hz] at hfs
        refine ⟨(k + 1, true, c.mn, c.mx), ⟨hlt, by show true = decide (full (l.take (k + 1)) ≠ []); rw [hfs]; rfl, by show c.mn = _; rw [hfs]; rfl, by show c.mx = _; rw [hfs]; rfl⟩, show l.length - (k + 1) < l.length - k by omega, ?_⟩
        all_goals refine ⟨[(3, 6)], ?_⟩
        repeat (any_goals (first | exact True.intro | exact rfl | with_reducible_and_instances rfl | exact (by kernel_rfl) | refine And.intro ?_ ?_))
        all_goals conv => whnf
        · exact wk1 (by omega)
        · show AObj.row (cR ⟨N, S, if c.mn < c.mn then c.mn else c.mn, if c.mx > c.mx then c.mx else c.mx, Ce, Po, z65⟩) = .row (cR ⟨N, S, c.mn, c.mx, Ce, Po, z65⟩)
          rw [← min_if, ← max_if, Int.min_self, Int.max_self]
        · exact hmap
      · have q : ¬ c.n = 0 := by have := ‹(c.n == 0) = false›; simpa using this
        have q2 : sm = true := by have := ‹(!sm) = false›; simpa using this
        rw [if_neg q] at hfs
        have hz : full (l.take k) ≠ [] := by rw [q2] at hsm; exact of_decide_eq_true hsm.symm
        have hz2 : (full (l.take k)).map (·.mn) ≠ [] := fun h => hz (List.map_eq_nil_iff.1 h)
        have hz3 : (full (l.take k)).map (·.mx) ≠ [] := fun h => hz (List.map_eq_nil_iff.1 h)
        refine ⟨(k + 1, sm, min a c.mn, max b c.mx), ⟨hlt, by show sm = decide (full (l.take (k + 1)) ≠ []); rw [hfs, q2]; simp, by show min a c.mn = _; rw [hfs, List.map_append]; show _ = mmin (_ ++ [c.mn]); rw [mmin_snoc, if_neg hz2, ← ha], by show max b c.mx = _; rw [hfs, List.map_append]; show _ = mmax (_ ++ [c.mx]); rw [mmax_snoc, if_neg hz3, ← hb]⟩, show l.length - (k + 1) < l.length - k by omega, ?_⟩
        all_goals refine ⟨[(3, 6)], ?_⟩
        repeat (any_goals (first | exact True.intro | exact rfl | with_reducible_and_instances rfl | exact (by kernel_rfl) | refine And.intro ?_ ?_))
        all_goals conv => whnf
        · exact wk1 (by omega)
        · show AObj.row (cR ⟨N, S, if c.mn < a then c.mn else a, if c.mx > b then c.mx else b, Ce, Po, z65⟩) = .row (cR ⟨N, S, min a c.mn, max b c.mx, Ce, Po, z65⟩)
          rw [min_if, max_if]
        · exact hmap
    · have hke : k = l.length := by omega
      subst hke
      rw [List.take_length] at ha hb
      rw [← ha, ← hb]
      rw [show (l.map (·.h)).map Go.Proofs.Ytbjmdnemeidpjaa.hR = (l.take l.length).map (fun c => Go.Proofs.Ytbjmdnemeidpjaa.hR c.h) from by rw [List.take_length, List.map_map]; rfl] at mh
      have hz0 : (⟨N, S, a, b, Ce, Po, z65⟩ : Cel).h.length = 65 := rfl
      iterate 6
        repeat (any_goals (first
          | exact True.intro
          | (refine And.intro (whole_len s69 hml) ?_; conv => whnf)
          | (refine And.intro (fit69 hml) ?_; conv => whnf)
          | (refine ⟨_, set69 hml, ?_⟩; conv => whnf)
          | (refine ⟨_, whole_row s69 hml, whole_len s69 hml, ?_⟩; conv => whnf)
          | (refine And.intro (hist_fit hz0 hml) ?_; conv => whnf)
          | (refine ⟨_, set_hh hz0 hml, ?_⟩; conv => whnf)
          | (refine ⟨_, drop_id, ?_⟩; conv => whnf)
          | (refine ⟨_, _, at_n, ?_⟩; conv => whnf)
          | (refine ⟨_, _, at_hi, ?_⟩; conv => whnf)
          | (refine ⟨_, _, at_lo, ?_⟩; conv => whnf)
          | (refine ⟨_, _, at_mn, ?_⟩; conv => whnf)
          | (refine ⟨_, _, at_mx, ?_⟩; conv => whnf)
          | (refine ⟨_, _, at_ce, ?_⟩; conv => whnf)
          | (refine ⟨_, _, at_po, ?_⟩; conv => whnf)
          | (refine ⟨_, whole_z sC, clenz sC, ?_⟩; conv => whnf)
          | (refine ⟨_, setzC, ?_⟩; conv => whnf)
          | (refine And.intro (clenz sC) ?_; conv => whnf)
          | (refine And.intro fitzC ?_; conv => whnf)
          | (refine ⟨_, whole_cell sC hml, clen sC hml, ?_⟩; conv => whnf)
          | (refine And.intro (clen sC hml) ?_; conv => whnf)
          | (refine And.intro (fitC hml) ?_; conv => whnf)
          | (refine ⟨_, setC hml, ?_⟩; conv => whnf)
          | (refine ⟨_, whole_z sF, clenz sF, ?_⟩; conv => whnf)
          | (refine ⟨_, setzF, ?_⟩; conv => whnf)
          | (refine And.intro (clenz sF) ?_; conv => whnf)
          | (refine And.intro fitzF ?_; conv => whnf)
          | (refine ⟨_, whole_cell sF hml, clen sF hml, ?_⟩; conv => whnf)
          | (refine And.intro (clen sF hml) ?_; conv => whnf)
          | (refine And.intro (fitF hml) ?_; conv => whnf)
          | (refine ⟨_, setF hml, ?_⟩; conv => whnf)
          | (refine And.intro (fit1 hml (by decide)) ?_; conv => whnf)
          | (refine And.intro (fit1 rfl (by decide)) ?_; conv => whnf)
          | (refine ⟨_, sum_cell s25, rfl, ?_⟩; conv => whnf)
          | (refine ⟨_, set_n _, ?_⟩; conv => whnf)
          | (refine ⟨_, set_mn _, ?_⟩; conv => whnf)
          | (refine ⟨_, set_mx _, ?_⟩; conv => whnf)
          | (refine ⟨_, set_ce _, ?_⟩; conv => whnf)
          | (refine ⟨_, set_po _, ?_⟩; conv => whnf)
          | (refine ⟨_, set_s _, ?_⟩; conv => whnf)
          | (refine ⟨_, set_hi _, ?_⟩; conv => whnf)
          | (refine ⟨_, set_lo _, ?_⟩; conv => whnf)
          | (refine And.intro (fun _ => ?_) tf; conv => whnf)
          | (refine And.intro ft (fun _ => ?_); conv => whnf)
          | (refine And.intro (by kernel_rfl) ?_; conv => whnf)
          | (refine And.intro (by decide) ?_; conv => whnf)
          | (refine And.intro (fun _ => ?_) (fun h => absurd h (by decide)); conv => whnf)
          | (refine And.intro (fun h => absurd h (by decide)) (fun _ => ?_); conv => whnf)
          | (refine And.intro (fun _ => ?_) (fun _ => ?_) <;> conv => whnf)
          | (refine ⟨_, _, lendO mh rfl (flat_hE _ _), ?_⟩; conv => whnf)))
        all_goals try (refine Or.inl ?_; conv => whnf)
      all_goals try exact (noLt ‹_›).elim
      all_goals refine ⟨[], ?_⟩
      repeat (any_goals (first | exact True.intro | exact rfl | with_reducible_and_instances rfl | exact (by kernel_rfl) | refine And.intro ?_ ?_))
      all_goals conv => whnf
end Go.Proofs.Ytbjmdnemeidpjaa
/- wide.Bytes, wide.Back at 13. -/
namespace Go.Proofs.Ytbjmdnemeidpjaa
set_option linter.unusedSimpArgs false
set_option linter.unusedVariables false
open Go.RowKit
set_option maxRecDepth 100000
abbrev b13 : List UInt8 := [0, 0, 0, 0, 0, 0, 0, 0, 0, 0, 0, 0, 0, 0, 0, 13]
abbrev b00 : List UInt8 := [0, 0, 0, 0, 0, 0, 0, 0, 0, 0, 0, 0, 0, 0, 0, 0]
set_option maxHeartbeats 4000000 in
theorem wbytes13 : Sat Try.prog 73 [.d (.agg [iD 0, uZ 13])] [] (.own 1) [.dead, .sl 1 (b13.map bR)] := by
  refine sat_of_vc (T := tiOf Try.prog) (E := E0) Try.func73 rfl rfl hE0 hm0 rfl ?_
  conv => whnf
  iterate 2
    repeat (any_goals (first
      | exact True.intro
      | (refine And.intro (fun _ => ?_) tf; conv => whnf)
      | (refine And.intro ft (fun _ => ?_); conv => whnf)
      | (refine And.intro (by kernel_rfl) ?_; conv => whnf)
      | (refine And.intro (by decide) ?_; conv => whnf)
      | (refine And.intro (fun _ => ?_) (fun h => absurd h (by decide)); conv => whnf)
      | (refine And.intro (fun h => absurd h (by decide)) (fun _ => ?_); conv => whnf)
      | (refine And.intro (fun _ => ?_) (fun _ => ?_) <;> conv => whnf)
      | (refine ⟨_, _, mkf (c := 16) 1 1 (by kernel_rfl) (by omega) (by unfold maxLen; omega), ?_⟩; conv => whnf)))
    all_goals try (refine Or.inl ?_; conv => whnf)
  refine ⟨Nat × List UInt8, fun y => (y.1 = 0 ∧ y.2 = b00) ∨ (0 < y.1 ∧ y.1 ≤ 8 ∧ y.2 = b13), fun y => ([(6, iA y.1), (3, .own 1), (1, .ptr 0 0)], [.cells [iA 0, uN 13], .sl 1 (y.2.map bR)]), fun y => 8 - y.1, ⟨(0, b00), .inl ⟨rfl, rfl⟩, ?_⟩, ?_⟩
  · all_goals refine ⟨[], ?_⟩
    repeat (any_goals (first | exact True.intro | exact rfl | with_reducible_and_instances rfl | exact (by kernel_rfl) | refine And.intro ?_ ?_))
    all_goals conv => whnf
  rintro ⟨k, l⟩ h
  have hk : k = 0 ∨ k = 1 ∨ k = 2 ∨ k = 3 ∨ k = 4 ∨ k = 5 ∨ k = 6 ∨ k = 7 ∨ k = 8 := by
    rcases h with ⟨h, _⟩ | ⟨h, h', _⟩
    · exact .inl h
    · have h : 0 < k := h
      have h' : k ≤ 8 := h'
      omega
  have hl : l = if k = 0 then b00 else b13 := by
    rcases h with ⟨h, e⟩ | ⟨h, h', e⟩
    · have h : k = 0 := h
      rw [if_pos h]; exact e
    · have h : 0 < k := h
      rw [if_neg (by omega)]; exact e
  clear h
  conv => whnf
  rcases hk with rfl | rfl | rfl | rfl | rfl | rfl | rfl | rfl | rfl
  · have hl : l = b00 := hl
    subst hl
    iterate 4
      repeat (any_goals (first
        | exact True.intro
        | (refine ⟨_, _, rfl, rfl, ?_⟩; conv => whnf)
        | (refine And.intro (show (0:Int) ≤ _ from by decide) ?_; conv => whnf)
        | (refine ⟨7, show _ = ((7 : Nat) : Int) from by decide, show 7 < List.length _ from by decide, ?_⟩; conv => whnf)
        | (refine ⟨15, show _ = ((15 : Nat) : Int) from by decide, show 15 < List.length _ from by decide, ?_⟩; conv => whnf)
        | (refine And.intro (fun _ => ?_) tf; conv => whnf)
        | (refine And.intro ft (fun _ => ?_); conv => whnf)
        | (refine And.intro (by kernel_rfl) ?_; conv => whnf)
        | (refine And.intro (by decide) ?_; conv => whnf)
        | (refine And.intro (fun _ => ?_) (fun h => absurd h (by decide)); conv => whnf)
        | (refine And.intro (fun h => absurd h (by decide)) (fun _ => ?_); conv => whnf)
        | (refine And.intro (fun _ => ?_) (fun _ => ?_) <;> conv => whnf)))
      all_goals try (refine Or.inl ?_; conv => whnf)
    refine ⟨(1, b13), .inr ⟨by show 0 < 1; omega, by show 1 ≤ 8; omega, rfl⟩, show 8 - 1 < 8 - 0 by omega, ?_⟩
    all_goals refine ⟨[], ?_⟩
    repeat (any_goals (first | exact True.intro | exact rfl | with_reducible_and_instances rfl | exact (by kernel_rfl) | refine And.intro ?_ ?_))
    all_goals conv => whnf
  · have hl : l = b13 := hl
    subst hl
    iterate 4
      repeat (any_goals (first
        | exact True.intro
        | (refine ⟨_, _, rfl, rfl, ?_⟩; conv => whnf)
        | (refine And.intro (show (0:Int) ≤ _ from by decide) ?_; conv => whnf)
        | (refine ⟨6, show _ = ((6 : Nat) : Int) from by decide, show 6 < List.length _ from by decide, ?_⟩; conv => whnf)
        | (refine ⟨14, show _ = ((14 : Nat) : Int) from by decide, show 14 < List.length _ from by decide, ?_⟩; conv => whnf)
        | (refine And.intro (fun _ => ?_) tf; conv => whnf)
        | (refine And.intro ft (fun _ => ?_); conv => whnf)
        | (refine And.intro (by kernel_rfl) ?_; conv => whnf)
        | (refine And.intro (by decide) ?_; conv => whnf)
        | (refine And.intro (fun _ => ?_) (fun h => absurd h (by decide)); conv => whnf)
        | (refine And.intro (fun h => absurd h (by decide)) (fun _ => ?_); conv => whnf)
        | (refine And.intro (fun _ => ?_) (fun _ => ?_) <;> conv => whnf)))
      all_goals try (refine Or.inl ?_; conv => whnf)
    refine ⟨(2, b13), .inr ⟨by show 0 < 2; omega, by show 2 ≤ 8; omega, rfl⟩, show 8 - 2 < 8 - 1 by omega, ?_⟩
    all_goals refine ⟨[], ?_⟩
    repeat (any_goals (first | exact True.intro | exact rfl | with_reducible_and_instances rfl | exact (by kernel_rfl) | refine And.intro ?_ ?_))
    all_goals conv => whnf
  · have hl : l = b13 := hl
    subst hl
    iterate 4
      repeat (any_goals (first
        | exact True.intro
        | (refine ⟨_, _, rfl, rfl, ?_⟩; conv => whnf)
        | (refine And.intro (show (0:Int) ≤ _ from by decide) ?_; conv => whnf)
        | (refine ⟨5, show _ = ((5 : Nat) : Int) from by decide, show 5 < List.length _ from by decide, ?_⟩; conv => whnf)
        | (refine ⟨13, show _ = ((13 : Nat) : Int) from by decide, show 13 < List.length _ from by decide, ?_⟩; conv => whnf)
        | (refine And.intro (fun _ => ?_) tf; conv => whnf)
        | (refine And.intro ft (fun _ => ?_); conv => whnf)
        | (refine And.intro (by kernel_rfl) ?_; conv => whnf)
        | (refine And.intro (by decide) ?_; conv => whnf)
        | (refine And.intro (fun _ => ?_) (fun h => absurd h (by decide)); conv => whnf)
        | (refine And.intro (fun h => absurd h (by decide)) (fun _ => ?_); conv => whnf)
        | (refine And.intro (fun _ => ?_) (fun _ => ?_) <;> conv => whnf)))
      all_goals try (refine Or.inl ?_; conv => whnf)
    refine ⟨(3, b13), .inr ⟨by show 0 < 3; omega, by show 3 ≤ 8; omega, rfl⟩, show 8 - 3 < 8 - 2 by omega, ?_⟩
    all_goals refine ⟨[], ?_⟩
    repeat (any_goals (first | exact True.intro | exact rfl | with_reducible_and_instances rfl | exact (by kernel_rfl) | refine And.intro ?_ ?_))
    all_goals conv => whnf
  · have hl : l = b13 := hl
    subst hl
    iterate 4
      repeat (any_goals (first
        | exact True.intro
        | (refine ⟨_, _, rfl, rfl, ?_⟩; conv => whnf)
        | (refine And.intro (show (0:Int) ≤ _ from by decide) ?_; conv => whnf)
        | (refine ⟨4, show _ = ((4 : Nat) : Int) from by decide, show 4 < List.length _ from by decide, ?_⟩; conv => whnf)
        | (refine ⟨12, show _ = ((12 : Nat) : Int) from by decide, show 12 < List.length _ from by decide, ?_⟩; conv => whnf)
        | (refine And.intro (fun _ => ?_) tf; conv => whnf)
        | (refine And.intro ft (fun _ => ?_); conv => whnf)
        | (refine And.intro (by kernel_rfl) ?_; conv => whnf)
        | (refine And.intro (by decide) ?_; conv => whnf)
        | (refine And.intro (fun _ => ?_) (fun h => absurd h (by decide)); conv => whnf)
        | (refine And.intro (fun h => absurd h (by decide)) (fun _ => ?_); conv => whnf)
        | (refine And.intro (fun _ => ?_) (fun _ => ?_) <;> conv => whnf)))
      all_goals try (refine Or.inl ?_; conv => whnf)
    refine ⟨(4, b13), .inr ⟨by show 0 < 4; omega, by show 4 ≤ 8; omega, rfl⟩, show 8 - 4 < 8 - 3 by omega, ?_⟩
    all_goals refine ⟨[], ?_⟩
    repeat (any_goals (first | exact True.intro | exact rfl | with_reducible_and_instances rfl | exact (by kernel_rfl) | refine And.intro ?_ ?_))
    all_goals conv => whnf
  · have hl : l = b13 := hl
    subst hl
    iterate 4
      repeat (any_goals (first
        | exact True.intro
        | (refine ⟨_, _, rfl, rfl, ?_⟩; conv => whnf)
        | (refine And.intro (show (0:Int) ≤ _ from by decide) ?_; conv => whnf)
        | (refine ⟨3, show _ = ((3 : Nat) : Int) from by decide, show 3 < List.length _ from by decide, ?_⟩; conv => whnf)
        | (refine ⟨11, show _ = ((11 : Nat) : Int) from by decide, show 11 < List.length _ from by decide, ?_⟩; conv => whnf)
        | (refine And.intro (fun _ => ?_) tf; conv => whnf)
        | (refine And.intro ft (fun _ => ?_); conv => whnf)
        | (refine And.intro (by kernel_rfl) ?_; conv => whnf)
        | (refine And.intro (by decide) ?_; conv => whnf)
        | (refine And.intro (fun _ => ?_) (fun h => absurd h (by decide)); conv => whnf)
        | (refine And.intro (fun h => absurd h (by decide)) (fun _ => ?_); conv => whnf)
        | (refine And.intro (fun _ => ?_) (fun _ => ?_) <;> conv => whnf)))
      all_goals try (refine Or.inl ?_; conv => whnf)
    refine ⟨(5, b13), .inr ⟨by show 0 < 5; omega, by show 5 ≤ 8; omega, rfl⟩, show 8 - 5 < 8 - 4 by omega, ?_⟩
    all_goals refine ⟨[], ?_⟩
    repeat (any_goals (first | exact True.intro | exact rfl | with_reducible_and_instances rfl | exact (by kernel_rfl) | refine And.intro ?_ ?_))
    all_goals conv => whnf
  · have hl : l = b13 := hl
    subst hl
    iterate 4
      repeat (any_goals (first
        | exact True.intro
        | (refine ⟨_, _, rfl, rfl, ?_⟩; conv => whnf)
        | (refine And.intro (show (0:Int) ≤ _ from by decide) ?_; conv => whnf)
        | (refine ⟨2, show _ = ((2 : Nat) : Int) from by decide, show 2 < List.length _ from by decide, ?_⟩; conv => whnf)
        | (refine ⟨10, show _ = ((10 : Nat) : Int) from by decide, show 10 < List.length _ from by decide, ?_⟩; conv => whnf)
        | (refine And.intro (fun _ => ?_) tf; conv => whnf)
        | (refine And.intro ft (fun _ => ?_); conv => whnf)
        | (refine And.intro (by kernel_rfl) ?_; conv => whnf)
        | (refine And.intro (by decide) ?_; conv => whnf)
        | (refine And.intro (fun _ => ?_) (fun h => absurd h (by decide)); conv => whnf)
        | (refine And.intro (fun h => absurd h (by decide)) (fun _ => ?_); conv => whnf)
        | (refine And.intro (fun _ => ?_) (fun _ => ?_) <;> conv => whnf)))
      all_goals try (refine Or.inl ?_; conv => whnf)
    refine ⟨(6, b13), .inr ⟨by show 0 < 6; omega, by show 6 ≤ 8; omega, rfl⟩, show 8 - 6 < 8 - 5 by omega, ?_⟩
    all_goals refine ⟨[], ?_⟩
    repeat (any_goals (first | exact True.intro | exact rfl | with_reducible_and_instances rfl | exact (by kernel_rfl) | refine And.intro ?_ ?_))
    all_goals conv => whnf
  · have hl : l = b13 := hl
    subst hl
    iterate 4
      repeat (any_goals (first
        | exact True.intro
        | (refine ⟨_, _, rfl, rfl, ?_⟩; conv => whnf)
        | (refine And.intro (show (0:Int) ≤ _ from by decide) ?_; conv => whnf)
        | (refine ⟨1, show _ = ((1 : Nat) : Int) from by decide, show 1 < List.length _ from by decide, ?_⟩; conv => whnf)
        | (refine ⟨9, show _ = ((9 : Nat) : Int) from by decide, show 9 < List.length _ from by decide, ?_⟩; conv => whnf)
        | (refine And.intro (fun _ => ?_) tf; conv => whnf)
        | (refine And.intro ft (fun _ => ?_); conv => whnf)
        | (refine And.intro (by kernel_rfl) ?_; conv => whnf)
        | (refine And.intro (by decide) ?_; conv => whnf)
        | (refine And.intro (fun _ => ?_) (fun h => absurd h (by decide)); conv => whnf)
        | (refine And.intro (fun h => absurd h (by decide)) (fun _ => ?_); conv => whnf)
        | (refine And.intro (fun _ => ?_) (fun _ => ?_) <;> conv => whnf)))
      all_goals try (refine Or.inl ?_; conv => whnf)
    refine ⟨(7, b13), .inr ⟨by show 0 < 7; omega, by show 7 ≤ 8; omega, rfl⟩, show 8 - 7 < 8 - 6 by omega, ?_⟩
    all_goals refine ⟨[], ?_⟩
    repeat (any_goals (first | exact True.intro | exact rfl | with_reducible_and_instances rfl | exact (by kernel_rfl) | refine And.intro ?_ ?_))
    all_goals conv => whnf
  · have hl : l = b13 := hl
    subst hl
    iterate 4
      repeat (any_goals (first
        | exact True.intro
        | (refine ⟨_, _, rfl, rfl, ?_⟩; conv => whnf)
        | (refine And.intro (show (0:Int) ≤ _ from by decide) ?_; conv => whnf)
        | (refine ⟨0, show _ = ((0 : Nat) : Int) from by decide, show 0 < List.length _ from by decide, ?_⟩; conv => whnf)
        | (refine ⟨8, show _ = ((8 : Nat) : Int) from by decide, show 8 < List.length _ from by decide, ?_⟩; conv => whnf)
        | (refine And.intro (fun _ => ?_) tf; conv => whnf)
        | (refine And.intro ft (fun _ => ?_); conv => whnf)
        | (refine And.intro (by kernel_rfl) ?_; conv => whnf)
        | (refine And.intro (by decide) ?_; conv => whnf)
        | (refine And.intro (fun _ => ?_) (fun h => absurd h (by decide)); conv => whnf)
        | (refine And.intro (fun h => absurd h (by decide)) (fun _ => ?_); conv => whnf)
        | (refine And.intro (fun _ => ?_) (fun _ => ?_) <;> conv => whnf)))
      all_goals try (refine Or.inl ?_; conv => whnf)
    refine ⟨(8, b13), .inr ⟨by show 0 < 8; omega, by show 8 ≤ 8; omega, rfl⟩, show 8 - 8 < 8 - 7 by omega, ?_⟩
    all_goals refine ⟨[], ?_⟩
    repeat (any_goals (first | exact True.intro | exact rfl | with_reducible_and_instances rfl | exact (by kernel_rfl) | refine And.intro ?_ ?_))
    all_goals conv => whnf
  · have hl : l = b13 := hl
    subst hl
    iterate 4
      repeat (any_goals (first
        | exact True.intro
        | (refine And.intro (fun _ => ?_) tf; conv => whnf)
        | (refine And.intro ft (fun _ => ?_); conv => whnf)
        | (refine And.intro (by kernel_rfl) ?_; conv => whnf)
        | (refine And.intro (by decide) ?_; conv => whnf)
        | (refine And.intro (fun _ => ?_) (fun h => absurd h (by decide)); conv => whnf)
        | (refine And.intro (fun h => absurd h (by decide)) (fun _ => ?_); conv => whnf)
        | (refine And.intro (fun _ => ?_) (fun _ => ?_) <;> conv => whnf)))
      all_goals try (refine Or.inl ?_; conv => whnf)
    all_goals refine ⟨[], ?_⟩
    repeat (any_goals (first | exact True.intro | exact rfl | with_reducible_and_instances rfl | exact (by kernel_rfl) | refine And.intro ?_ ?_))
    all_goals conv => whnf
end Go.Proofs.Ytbjmdnemeidpjaa
