/- Parts CeV, CdA, CdB, CdC, CdD of the proof, put together. -/
import Derived.Test.YtbjmdnemeidpjaaM12
/- The document's Merge and Note. -/
namespace Go.Proofs.Ytbjmdnemeidpjaa
set_option linter.unusedSimpArgs false
set_option linter.unusedVariables false
open Go.RowKit
set_option maxRecDepth 100000
set_option maxHeartbeats 16000000 in
theorem refMerge_sat_c (l : List Cel) (hl : ∀ c ∈ l, CelOK c) (hn : l.length ≤ 1000) : Sat Try.prog 16 [.d (.sl 72 (l.map cR))] [] (.tup [.d (cD (mergeC l).1), iA (mergeC l).2]) [] := by
  have hm : (l.map cR).length = l.length := List.length_map _
  refine sat_of_vc (T := tiOf Try.prog) (E := E0) Try.func16 rfl rfl hE0 hm0 rfl ?_
  conv => whnf
  iterate 2
    repeat (any_goals (first
      | exact True.intro
      | (refine ⟨_, drop_id, ?_⟩; conv => whnf)
      | (refine ⟨_, _, at_n, ?_⟩; conv => whnf)
      | (refine ⟨_, _, at_hi, ?_⟩; conv => whnf)
      | (refine ⟨_, _, at_lo, ?_⟩; conv => whnf)
      | (refine ⟨_, _, at_mn, ?_⟩; conv => whnf)
      | (refine ⟨_, _, at_mx, ?_⟩; conv => whnf)
      | (refine ⟨_, _, at_ce, ?_⟩; conv => whnf)
      | (refine ⟨_, _, at_po, ?_⟩; conv => whnf)
      | (refine ⟨_, whole_z sC, clenz sC, ?_⟩; conv => whnf)
      | (refine ⟨_, setzC, ?_⟩; conv => whnf)
      | (refine And.intro (clenz sC) ?_; conv => whnf)
      | (refine And.intro fitzC ?_; conv => whnf)
      | (refine ⟨_, whole_z sF, clenz sF, ?_⟩; conv => whnf)
      | (refine ⟨_, setzF, ?_⟩; conv => whnf)
      | (refine And.intro (clenz sF) ?_; conv => whnf)
      | (refine And.intro fitzF ?_; conv => whnf)
      | (refine And.intro (fit1 rfl (by decide)) ?_; conv => whnf)
      | (refine ⟨_, sum_cell s25, rfl, ?_⟩; conv => whnf)
      | (refine ⟨_, set_n _, ?_⟩; conv => whnf)
      | (refine ⟨_, set_mn _, ?_⟩; conv => whnf)
      | (refine ⟨_, set_mx _, ?_⟩; conv => whnf)
      | (refine ⟨_, set_ce _, ?_⟩; conv => whnf)
      | (refine ⟨_, set_po _, ?_⟩; conv => whnf)
      | (refine ⟨_, set_s _, ?_⟩; conv => whnf)
      | (refine ⟨_, set_hi _, ?_⟩; conv => whnf)
      | (refine ⟨_, set_lo _, ?_⟩; conv => whnf)
      | (refine And.intro (fun _ => ?_) tf; conv => whnf)
      | (refine And.intro ft (fun _ => ?_); conv => whnf)
      | (refine And.intro (by kernel_rfl) ?_; conv => whnf)
      | (refine And.intro (by decide) ?_; conv => whnf)
      | (refine And.intro (fun _ => ?_) (fun h => absurd h (by decide)); conv => whnf)
      | (refine And.intro (fun h => absurd h (by decide)) (fun _ => ?_); conv => whnf)
      | (refine And.intro (fun _ => ?_) (fun _ => ?_) <;> conv => whnf)))
    all_goals try (refine Or.inl ?_; conv => whnf)
  refine ⟨Nat, fun k => k ≤ l.length ∧ (l.take k).all rightC = true, fun k => ([(4, iA k), (2, .ptr 0 0), (0, .d (.sl 72 (l.map cR)))], [.row (cR zC)]), fun k => l.length - k, ⟨0, ⟨Nat.zero_le _, rfl⟩, ?_⟩, ?_⟩
  · all_goals refine ⟨[], ?_⟩
    repeat (any_goals (first | exact True.intro | exact rfl | with_reducible_and_instances rfl | exact (by kernel_rfl) | refine And.intro ?_ ?_))
    all_goals conv => whnf
  rintro k ⟨hk, hr⟩
  conv => whnf
  by_cases hlt : k < l.length
  · have hx : l[k]? = some l[k] := List.getElem?_eq_getElem hlt
    have hc := hl _ (List.getElem_mem hlt)
    have ha := all_take_right hx
    generalize l[k] = c at hx hc ha
    have hcl := hc.hl
    have r1 := refRight_sat_c c hc
    by_cases q : rightC c = true
    · rw [q] at r1 ha
      iterate 4
        repeat (any_goals (first
          | exact True.intro
          | (refine ⟨k, _, rfl, map_get hx, ?_⟩; conv => whnf)
          | (refine ⟨_, drop_id, ?_⟩; conv => whnf)
          | (refine ⟨_, _, at_n, ?_⟩; conv => whnf)
          | (refine ⟨_, _, at_hi, ?_⟩; conv => whnf)
          | (refine ⟨_, _, at_lo, ?_⟩; conv => whnf)
          | (refine ⟨_, _, at_mn, ?_⟩; conv => whnf)
          | (refine ⟨_, _, at_mx, ?_⟩; conv => whnf)
          | (refine ⟨_, _, at_ce, ?_⟩; conv => whnf)
          | (refine ⟨_, _, at_po, ?_⟩; conv => whnf)
          | (refine ⟨_, whole_z sC, clenz sC, ?_⟩; conv => whnf)
          | (refine ⟨_, setzC, ?_⟩; conv => whnf)
          | (refine And.intro (clenz sC) ?_; conv => whnf)
          | (refine And.intro fitzC ?_; conv => whnf)
          | (refine ⟨_, whole_cell sC hcl, clen sC hcl, ?_⟩; conv => whnf)
          | (refine And.intro (clen sC hcl) ?_; conv => whnf)
          | (refine And.intro (fitC hcl) ?_; conv => whnf)
          | (refine ⟨_, setC hcl, ?_⟩; conv => whnf)
          | (refine ⟨_, whole_z sF, clenz sF, ?_⟩; conv => whnf)
          | (refine ⟨_, setzF, ?_⟩; conv => whnf)
          | (refine And.intro (clenz sF) ?_; conv => whnf)
          | (refine And.intro fitzF ?_; conv => whnf)
          | (refine ⟨_, whole_cell sF hcl, clen sF hcl, ?_⟩; conv => whnf)
          | (refine And.intro (clen sF hcl) ?_; conv => whnf)
          | (refine And.intro (fitF hcl) ?_; conv => whnf)
          | (refine ⟨_, setF hcl, ?_⟩; conv => whnf)
          | (refine And.intro (fit1 hcl (by decide)) ?_; conv => whnf)
          | (refine And.intro (fit1 rfl (by decide)) ?_; conv => whnf)
          | (refine ⟨_, sum_cell s25, rfl, ?_⟩; conv => whnf)
          | (refine ⟨_, set_n _, ?_⟩; conv => whnf)
          | (refine ⟨_, set_mn _, ?_⟩; conv => whnf)
          | (refine ⟨_, set_mx _, ?_⟩; conv => whnf)
          | (refine ⟨_, set_ce _, ?_⟩; conv => whnf)
          | (refine ⟨_, set_po _, ?_⟩; conv => whnf)
          | (refine ⟨_, set_s _, ?_⟩; conv => whnf)
          | (refine ⟨_, set_hi _, ?_⟩; conv => whnf)
          | (refine ⟨_, set_lo _, ?_⟩; conv => whnf)
          | (refine And.intro (fun _ => ?_) tf; conv => whnf)
          | (refine And.intro ft (fun _ => ?_); conv => whnf)
          | (refine And.intro (by kernel_rfl) ?_; conv => whnf)
          | (refine And.intro (by decide) ?_; conv => whnf)
          | (refine And.intro (fun _ => ?_) (fun h => absurd h (by decide)); conv => whnf)
          | (refine And.intro (fun h => absurd h (by decide)) (fun _ => ?_); conv => whnf)
          | (refine And.intro (fun _ => ?_) (fun _ => ?_) <;> conv => whnf)
          | (refine ⟨_, _, r1.pu rfl rfl, ?_⟩; conv => whnf)))
        all_goals try (refine Or.inl ?_; conv => whnf)
      all_goals try exact (noGe hlt ‹_›).elim
      all_goals try (exfalso; simp only [decide_eq_true_eq, decide_eq_false_iff_not, Bool.not_eq_true', Bool.not_eq_false', Bool.not_eq_true, Bool.not_eq_false, beq_iff_eq, bne_iff_ne, beq_eq_false_iff_ne, bne_eq_false_iff_eq, ne_eq, Decidable.not_not] at *; first | omega | contradiction | (simp_all; done) | (simp_all; omega))
      refine ⟨k + 1, ⟨hlt, by rw [ha, hr]; rfl⟩, show l.length - (k + 1) < l.length - k by omega, ?_⟩
      all_goals refine ⟨[], ?_⟩
      repeat (any_goals (first | exact True.intro | exact rfl | with_reducible_and_instances rfl | exact (by kernel_rfl) | refine And.intro ?_ ?_))
      all_goals conv => whnf
      exact wk1 (by omega)
    · have q : rightC c = false := by simpa using q
      rw [q] at r1
      have hall : l.all rightC = false := by
        rw [← List.take_append_drop (k + 1) l, List.all_append, ha, q, Bool.and_false, Bool.false_and]
      have e : mergeC l = (zC, 10) := by unfold mergeC; rw [if_pos hall]
      iterate 4
        repeat (any_goals (first
          | exact True.intro
          | (refine ⟨k, _, rfl, map_get hx, ?_⟩; conv => whnf)
          | (refine ⟨_, drop_id, ?_⟩; conv => whnf)
          | (refine ⟨_, _, at_n, ?_⟩; conv => whnf)
          | (refine ⟨_, _, at_hi, ?_⟩; conv => whnf)
          | (refine ⟨_, _, at_lo, ?_⟩; conv => whnf)
          | (refine ⟨_, _, at_mn, ?_⟩; conv => whnf)
          | (refine ⟨_, _, at_mx, ?_⟩; conv => whnf)
          | (refine ⟨_, _, at_ce, ?_⟩; conv => whnf)
          | (refine ⟨_, _, at_po, ?_⟩; conv => whnf)
          | (refine ⟨_, whole_z sC, clenz sC, ?_⟩; conv => whnf)
          | (refine ⟨_, setzC, ?_⟩; conv => whnf)
          | (refine And.intro (clenz sC) ?_; conv => whnf)
          | (refine And.intro fitzC ?_; conv => whnf)
          | (refine ⟨_, whole_cell sC hcl, clen sC hcl, ?_⟩; conv => whnf)
          | (refine And.intro (clen sC hcl) ?_; conv => whnf)
          | (refine And.intro (fitC hcl) ?_; conv => whnf)
          | (refine ⟨_, setC hcl, ?_⟩; conv => whnf)
          | (refine ⟨_, whole_z sF, clenz sF, ?_⟩; conv => whnf)
          | (refine ⟨_, setzF, ?_⟩; conv => whnf)
          | (refine And.intro (clenz sF) ?_; conv => whnf)
          | (refine And.intro fitzF ?_; conv => whnf)
          | (refine ⟨_, whole_cell sF hcl, clen sF hcl, ?_⟩; conv => whnf)
          | (refine And.intro (clen sF hcl) ?_; conv => whnf)
          | (refine And.intro (fitF hcl) ?_; conv => whnf)
          | (refine ⟨_, setF hcl, ?_⟩; conv => whnf)
          | (refine And.intro (fit1 hcl (by decide)) ?_; conv => whnf)
          | (refine And.intro (fit1 rfl (by decide)) ?_; conv => whnf)
          | (refine ⟨_, sum_cell s25, rfl, ?_⟩; conv => whnf)
          | (refine ⟨_, set_n _, ?_⟩; conv => whnf)
          | (refine ⟨_, set_mn _, ?_⟩; conv => whnf)
          | (refine ⟨_, set_mx _, ?_⟩; conv => whnf)
          | (refine ⟨_, set_ce _, ?_⟩; conv => whnf)
          | (refine ⟨_, set_po _, ?_⟩; conv => whnf)
          | (refine ⟨_, set_s _, ?_⟩; conv => whnf)
          | (refine ⟨_, set_hi _, ?_⟩; conv => whnf)
          | (refine ⟨_, set_lo _, ?_⟩; conv => whnf)
          | (refine And.intro (fun _ => ?_) tf; conv => whnf)
          | (refine And.intro ft (fun _ => ?_); conv => whnf)
          | (refine And.intro (by kernel_rfl) ?_; conv => whnf)
          | (refine And.intro (by decide) ?_; conv => whnf)
          | (refine And.intro (fun _ => ?_) (fun h => absurd h (by decide)); conv => whnf)
          | (refine And.intro (fun h => absurd h (by decide)) (fun _ => ?_); conv => whnf)
          | (refine And.intro (fun _ => ?_) (fun _ => ?_) <;> conv => whnf)
          | (refine ⟨_, _, r1.pu rfl rfl, ?_⟩; conv => whnf)))
        all_goals try (refine Or.inl ?_; conv => whnf)
      all_goals try exact (noGe hlt ‹_›).elim
      all_goals try (exfalso; simp only [decide_eq_true_eq, decide_eq_false_iff_not, Bool.not_eq_true', Bool.not_eq_false', Bool.not_eq_true, Bool.not_eq_false, beq_iff_eq, bne_iff_ne, beq_eq_false_iff_ne, bne_eq_false_iff_eq, ne_eq, Decidable.not_not] at *; first | omega | contradiction | (simp_all; done) | (simp_all; omega))
      rw [e]
      all_goals refine ⟨[], ?_⟩
      repeat (any_goals (first | exact True.intro | exact rfl | with_reducible_and_instances rfl | exact (by kernel_rfl) | refine And.intro ?_ ?_))
      all_goals conv => whnf
  have hke : k = l.length := by omega
  subst hke
  rw [List.take_length] at hr
  have hR : ∀ c ∈ l, RightC c := fun c hc => right_iff.1 (List.all_eq_true.1 hr c hc)
  have s1 := refSums_sat l hl hR hn
  by_cases hfit : fitsC l = true
  case neg =>
    have hfit : fitsC l = false := by simpa using hfit
    rw [hfit] at s1
    have e : mergeC l = (zC, 12) := by unfold mergeC; rw [if_neg (by rw [hr]; simp), if_pos hfit]
    iterate 4
      repeat (any_goals (first
        | exact True.intro
        | (refine ⟨_, drop_id, ?_⟩; conv => whnf)
        | (refine ⟨_, _, at_n, ?_⟩; conv => whnf)
        | (refine ⟨_, _, at_hi, ?_⟩; conv => whnf)
        | (refine ⟨_, _, at_lo, ?_⟩; conv => whnf)
        | (refine ⟨_, _, at_mn, ?_⟩; conv => whnf)
        | (refine ⟨_, _, at_mx, ?_⟩; conv => whnf)
        | (refine ⟨_, _, at_ce, ?_⟩; conv => whnf)
        | (refine ⟨_, _, at_po, ?_⟩; conv => whnf)
        | (refine ⟨_, whole_z sC, clenz sC, ?_⟩; conv => whnf)
        | (refine ⟨_, setzC, ?_⟩; conv => whnf)
        | (refine And.intro (clenz sC) ?_; conv => whnf)
        | (refine And.intro fitzC ?_; conv => whnf)
        | (refine ⟨_, whole_z sF, clenz sF, ?_⟩; conv => whnf)
        | (refine ⟨_, setzF, ?_⟩; conv => whnf)
        | (refine And.intro (clenz sF) ?_; conv => whnf)
        | (refine And.intro fitzF ?_; conv => whnf)
        | (refine And.intro (fit1 rfl (by decide)) ?_; conv => whnf)
        | (refine ⟨_, sum_cell s25, rfl, ?_⟩; conv => whnf)
        | (refine ⟨_, set_n _, ?_⟩; conv => whnf)
        | (refine ⟨_, set_mn _, ?_⟩; conv => whnf)
        | (refine ⟨_, set_mx _, ?_⟩; conv => whnf)
        | (refine ⟨_, set_ce _, ?_⟩; conv => whnf)
        | (refine ⟨_, set_po _, ?_⟩; conv => whnf)
        | (refine ⟨_, set_s _, ?_⟩; conv => whnf)
        | (refine ⟨_, set_hi _, ?_⟩; conv => whnf)
        | (refine ⟨_, set_lo _, ?_⟩; conv => whnf)
        | (refine And.intro (fun _ => ?_) tf; conv => whnf)
        | (refine And.intro ft (fun _ => ?_); conv => whnf)
        | (refine And.intro (by kernel_rfl) ?_; conv => whnf)
        | (refine And.intro (by decide) ?_; conv => whnf)
        | (refine And.intro (fun _ => ?_) (fun h => absurd h (by decide)); conv => whnf)
        | (refine And.intro (fun h => absurd h (by decide)) (fun _ => ?_); conv => whnf)
        | (refine And.intro (fun _ => ?_) (fun _ => ?_) <;> conv => whnf)
        | (refine ⟨_, _, s1.pu rfl rfl, ?_⟩; conv => whnf)))
      all_goals try (refine Or.inl ?_; conv => whnf)
    all_goals try exact (noLt ‹_›).elim
    all_goals try (exfalso; simp only [decide_eq_true_eq, decide_eq_false_iff_not, Bool.not_eq_true', Bool.not_eq_false', Bool.not_eq_true, Bool.not_eq_false, beq_iff_eq, bne_iff_ne, beq_eq_false_iff_ne, bne_eq_false_iff_eq, ne_eq, Decidable.not_not] at *; first | omega | contradiction | (simp_all; done) | (simp_all; omega))
    rw [e]
    all_goals refine ⟨[], ?_⟩
    repeat (any_goals (first | exact True.intro | exact rfl | with_reducible_and_instances rfl | exact (by kernel_rfl) | refine And.intro ?_ ?_))
    all_goals conv => whnf
  rw [hfit] at s1
  have e : mergeC l = (joinC l, 0) := by unfold mergeC; rw [if_neg (by rw [hr]; simp), if_neg (by rw [hfit]; simp)]
  rw [e]
  iterate 3
    repeat (any_goals (first
      | exact True.intro
      | (refine ⟨_, drop_id, ?_⟩; conv => whnf)
      | (refine ⟨_, _, at_n, ?_⟩; conv => whnf)
      | (refine ⟨_, _, at_hi, ?_⟩; conv => whnf)
      | (refine ⟨_, _, at_lo, ?_⟩; conv => whnf)
      | (refine ⟨_, _, at_mn, ?_⟩; conv => whnf)
      | (refine ⟨_, _, at_mx, ?_⟩; conv => whnf)
      | (refine ⟨_, _, at_ce, ?_⟩; conv => whnf)
      | (refine ⟨_, _, at_po, ?_⟩; conv => whnf)
      | (refine ⟨_, whole_z sC, clenz sC, ?_⟩; conv => whnf)
      | (refine ⟨_, setzC, ?_⟩; conv => whnf)
      | (refine And.intro (clenz sC) ?_; conv => whnf)
      | (refine And.intro fitzC ?_; conv => whnf)
      | (refine ⟨_, whole_z sF, clenz sF, ?_⟩; conv => whnf)
      | (refine ⟨_, setzF, ?_⟩; conv => whnf)
      | (refine And.intro (clenz sF) ?_; conv => whnf)
      | (refine And.intro fitzF ?_; conv => whnf)
      | (refine And.intro (fit1 rfl (by decide)) ?_; conv => whnf)
      | (refine ⟨_, sum_cell s25, rfl, ?_⟩; conv => whnf)
      | (refine ⟨_, set_n _, ?_⟩; conv => whnf)
      | (refine ⟨_, set_mn _, ?_⟩; conv => whnf)
      | (refine ⟨_, set_mx _, ?_⟩; conv => whnf)
      | (refine ⟨_, set_ce _, ?_⟩; conv => whnf)
      | (refine ⟨_, set_po _, ?_⟩; conv => whnf)
      | (refine ⟨_, set_s _, ?_⟩; conv => whnf)
      | (refine ⟨_, set_hi _, ?_⟩; conv => whnf)
      | (refine ⟨_, set_lo _, ?_⟩; conv => whnf)
      | (refine And.intro (fun _ => ?_) tf; conv => whnf)
      | (refine And.intro ft (fun _ => ?_); conv => whnf)
      | (refine And.intro (by kernel_rfl) ?_; conv => whnf)
      | (refine And.intro (by decide) ?_; conv => whnf)
      | (refine And.intro (fun _ => ?_) (fun h => absurd h (by decide)); conv => whnf)
      | (refine And.intro (fun h => absurd h (by decide)) (fun _ => ?_); conv => whnf)
      | (refine And.intro (fun _ => ?_) (fun _ => ?_) <;> conv => whnf)
      | (refine ⟨_, _, s1.pu rfl rfl, ?_⟩; conv => whnf)))
    all_goals try (refine Or.inl ?_; conv => whnf)
  all_goals try exact (noLt ‹_›).elim
  refine ⟨Nat × Int × List Int × Cel, fun y => y.1 ≤ l.length ∧ y.2.1 = sumS (l.take y.1) ∧ y.2.2.1 = canL y.2.1.natAbs ∧ y.2.2.2 = bj (l.take y.1), fun y => ([(7, iA y.1), (6, .ptr 2 0), (5, .ptr 1 0), (2, .ptr 0 0), (0, .d (.sl 72 (l.map cR)))], [.row (cR zC), .row (cR y.2.2.2), .cells [bA (decide (y.2.1 < 0)), .d (lD y.2.2.1)]]), fun y => l.length - y.1, ⟨(0, 0, [], zC), ⟨Nat.zero_le _, rfl, canL_zero.symm, bj_nil.symm⟩, ?_⟩, ?_⟩
  · all_goals refine ⟨[], ?_⟩
    repeat (any_goals (first | exact True.intro | exact rfl | with_reducible_and_instances rfl | exact (by kernel_rfl) | refine And.intro ?_ ?_))
    all_goals conv => whnf
  rintro ⟨k, S, d, o⟩ ⟨(hk : k ≤ l.length), (hS : S = sumS (l.take k)), (hd : d = canL S.natAbs), (ho : o = bj (l.take k))⟩
  subst hd
  have fS : few 9 S := by rw [hS]; exact few_sumS (fun c hc => hl c (List.mem_of_mem_take hc)) (by rw [List.length_take]; omega)
  have oo : CelOK o := by rw [ho]; exact bj_ok hl hR hfit k
  have lo := oo.hl
  conv => whnf
  by_cases hlt : k < l.length
  · have hx : l[k]? = some l[k] := List.getElem?_eq_getElem hlt
    have hc := hl _ (List.getElem_mem hlt)
    have hss := sumS_succ hx
    obtain ⟨j1, j2⟩ := bj_step hl hR hfit hx
    generalize l[k] = c at hx hc hss j1 j2
    rw [← hS] at hss
    rw [← ho] at j1 j2
    have hcl := hc.hl
    have bl : (bare c).h.length = 65 := hc.hl
    have w1 := wide_num (hiZ c.s) (loZ c.s) hc.s (by unfold loZ word; omega) (by unfold loZ word; omega)
    rw [wide_split] at w1
    have a1 := add_few (k := 9) (by omega) fS (few_mono (few_in128 hc.s) (by omega))
    have t1 := two_sat o (bare c) oo (bare_ok hc) j1
    rw [j2] at t1
    have o' := bj_ok hl hR hfit (k + 1)
    have lo' := o'.hl
    generalize hB : bj (l.take (k + 1)) = B at *
    iterate 4
      repeat (any_goals (first
        | exact True.intro
        | (refine ⟨k, _, rfl, map_get hx, ?_⟩; conv => whnf)
        | (refine ⟨_, set_lo2 0, ?_⟩; conv => whnf)
        | (refine ⟨_, set_hi 0, ?_⟩; conv => whnf)
        | (refine And.intro (cell_fit lo' lo) ?_; conv => whnf)
        | (refine ⟨_, cell_sets lo lo', ?_⟩; conv => whnf)
        | (refine ⟨_, drop_id, ?_⟩; conv => whnf)
        | (refine ⟨_, _, at_n, ?_⟩; conv => whnf)
        | (refine ⟨_, _, at_hi, ?_⟩; conv => whnf)
        | (refine ⟨_, _, at_lo, ?_⟩; conv => whnf)
        | (refine ⟨_, _, at_mn, ?_⟩; conv => whnf)
        | (refine ⟨_, _, at_mx, ?_⟩; conv => whnf)
        | (refine ⟨_, _, at_ce, ?_⟩; conv => whnf)
        | (refine ⟨_, _, at_po, ?_⟩; conv => whnf)
        | (refine ⟨_, whole_z sC, clenz sC, ?_⟩; conv => whnf)
        | (refine ⟨_, setzC, ?_⟩; conv => whnf)
        | (refine And.intro (clenz sC) ?_; conv => whnf)
        | (refine And.intro fitzC ?_; conv => whnf)
        | (refine ⟨_, whole_cell sC hcl, clen sC hcl, ?_⟩; conv => whnf)
        | (refine And.intro (clen sC hcl) ?_; conv => whnf)
        | (refine And.intro (fitC hcl) ?_; conv => whnf)
        | (refine ⟨_, setC hcl, ?_⟩; conv => whnf)
        | (refine ⟨_, whole_cell sC lo, clen sC lo, ?_⟩; conv => whnf)
        | (refine And.intro (clen sC lo) ?_; conv => whnf)
        | (refine And.intro (fitC lo) ?_; conv => whnf)
        | (refine ⟨_, setC lo, ?_⟩; conv => whnf)
        | (refine ⟨_, whole_cell sC bl, clen sC bl, ?_⟩; conv => whnf)
        | (refine And.intro (clen sC bl) ?_; conv => whnf)
        | (refine And.intro (fitC bl) ?_; conv => whnf)
        | (refine ⟨_, setC bl, ?_⟩; conv => whnf)
        | (refine ⟨_, whole_cell sC lo', clen sC lo', ?_⟩; conv => whnf)
        | (refine And.intro (clen sC lo') ?_; conv => whnf)
        | (refine And.intro (fitC lo') ?_; conv => whnf)
        | (refine ⟨_, setC lo', ?_⟩; conv => whnf)
        | (refine ⟨_, whole_z sF, clenz sF, ?_⟩; conv => whnf)
        | (refine ⟨_, setzF, ?_⟩; conv => whnf)
        | (refine And.intro (clenz sF) ?_; conv => whnf)
        | (refine And.intro fitzF ?_; conv => whnf)
        | (refine ⟨_, whole_cell sF hcl, clen sF hcl, ?_⟩; conv => whnf)
        | (refine And.intro (clen sF hcl) ?_; conv => whnf)
        | (refine And.intro (fitF hcl) ?_; conv => whnf)
        | (refine ⟨_, setF hcl, ?_⟩; conv => whnf)
        | (refine ⟨_, whole_cell sF lo, clen sF lo, ?_⟩; conv => whnf)
        | (refine And.intro (clen sF lo) ?_; conv => whnf)
        | (refine And.intro (fitF lo) ?_; conv => whnf)
        | (refine ⟨_, setF lo, ?_⟩; conv => whnf)
        | (refine ⟨_, whole_cell sF bl, clen sF bl, ?_⟩; conv => whnf)
        | (refine And.intro (clen sF bl) ?_; conv => whnf)
        | (refine And.intro (fitF bl) ?_; conv => whnf)
        | (refine ⟨_, setF bl, ?_⟩; conv => whnf)
        | (refine ⟨_, whole_cell sF lo', clen sF lo', ?_⟩; conv => whnf)
        | (refine And.intro (clen sF lo') ?_; conv => whnf)
        | (refine And.intro (fitF lo') ?_; conv => whnf)
        | (refine ⟨_, setF lo', ?_⟩; conv => whnf)
        | (refine And.intro (fit1 hcl (by decide)) ?_; conv => whnf)
        | (refine And.intro (fit1 lo (by decide)) ?_; conv => whnf)
        | (refine And.intro (fit1 bl (by decide)) ?_; conv => whnf)
        | (refine And.intro (fit1 lo' (by decide)) ?_; conv => whnf)
        | (refine And.intro (fit1 rfl (by decide)) ?_; conv => whnf)
        | (refine ⟨_, sum_cell s25, rfl, ?_⟩; conv => whnf)
        | (refine ⟨_, set_n _, ?_⟩; conv => whnf)
        | (refine ⟨_, set_mn _, ?_⟩; conv => whnf)
        | (refine ⟨_, set_mx _, ?_⟩; conv => whnf)
        | (refine ⟨_, set_ce _, ?_⟩; conv => whnf)
        | (refine ⟨_, set_po _, ?_⟩; conv => whnf)
        | (refine ⟨_, set_s _, ?_⟩; conv => whnf)
        | (refine ⟨_, set_hi _, ?_⟩; conv => whnf)
        | (refine ⟨_, set_lo _, ?_⟩; conv => whnf)
        | (refine And.intro (fun _ => ?_) tf; conv => whnf)
        | (refine And.intro ft (fun _ => ?_); conv => whnf)
        | (refine And.intro (by kernel_rfl) ?_; conv => whnf)
        | (refine And.intro (by decide) ?_; conv => whnf)
        | (refine And.intro (fun _ => ?_) (fun h => absurd h (by decide)); conv => whnf)
        | (refine And.intro (fun h => absurd h (by decide)) (fun _ => ?_); conv => whnf)
        | (refine And.intro (fun _ => ?_) (fun _ => ?_) <;> conv => whnf)
        | (refine ⟨_, _, w1.pu rfl rfl, ?_⟩; conv => whnf)
        | (refine ⟨_, _, a1.pu rfl rfl, ?_⟩; conv => whnf)
        | (refine ⟨_, _, t1.pu rfl rfl, ?_⟩; conv => whnf)))
      all_goals try (refine Or.inl ?_; conv => whnf)
    all_goals try exact (noGe hlt ‹_›).elim
    all_goals try (exfalso; simp only [decide_eq_true_eq, decide_eq_false_iff_not, Bool.not_eq_true', Bool.not_eq_false', Bool.not_eq_true, Bool.not_eq_false, beq_iff_eq, bne_iff_ne, beq_eq_false_iff_ne, bne_eq_false_iff_eq, ne_eq, Decidable.not_not] at *; first | omega | contradiction | (simp_all; done) | (simp_all; omega))
    refine ⟨(k + 1, S + c.s, canL (S + c.s).natAbs, B), ⟨hlt, hss.symm, rfl, hB.symm⟩, show l.length - (k + 1) < l.length - k by omega, ?_⟩
    all_goals refine ⟨[], ?_⟩
    repeat (any_goals (first | exact True.intro | exact rfl | with_reducible_and_instances rfl | exact (by kernel_rfl) | refine And.intro ?_ ?_))
    all_goals conv => whnf
    exact wk1 (by omega)
  · have hke : k = l.length := by omega
    subst hke
    rw [List.take_length] at hS ho
    have f4 : in128 S := by
      rw [hS]
      rw [fits_iff] at hfit
      simp only [Bool.and_eq_true, decide_eq_true_eq] at hfit
      exact hfit.2
    have w3 := words_num S fS
    rw [if_pos (show in64 (hiZ S) from f4)] at w3
    rw [bj_join, ← ho, ← hS]
    iterate 4
      repeat (any_goals (first
        | exact True.intro
        | (refine ⟨_, set_lo2 S, ?_⟩; conv => whnf)
        | (refine ⟨_, set_hi S, ?_⟩; conv => whnf)
        | (refine ⟨_, drop_id, ?_⟩; conv => whnf)
        | (refine ⟨_, _, at_n, ?_⟩; conv => whnf)
        | (refine ⟨_, _, at_hi, ?_⟩; conv => whnf)
        | (refine ⟨_, _, at_lo, ?_⟩; conv => whnf)
        | (refine ⟨_, _, at_mn, ?_⟩; conv => whnf)
        | (refine ⟨_, _, at_mx, ?_⟩; conv => whnf)
        | (refine ⟨_, _, at_ce, ?_⟩; conv => whnf)
        | (refine ⟨_, _, at_po, ?_⟩; conv => whnf)
        | (refine ⟨_, whole_z sC, clenz sC, ?_⟩; conv => whnf)
        | (refine ⟨_, setzC, ?_⟩; conv => whnf)
        | (refine And.intro (clenz sC) ?_; conv => whnf)
        | (refine And.intro fitzC ?_; conv => whnf)
        | (refine ⟨_, whole_cell sC lo, clen sC lo, ?_⟩; conv => whnf)
        | (refine And.intro (clen sC lo) ?_; conv => whnf)
        | (refine And.intro (fitC lo) ?_; conv => whnf)
        | (refine ⟨_, setC lo, ?_⟩; conv => whnf)
        | (refine ⟨_, whole_z sF, clenz sF, ?_⟩; conv => whnf)
        | (refine ⟨_, setzF, ?_⟩; conv => whnf)
        | (refine And.intro (clenz sF) ?_; conv => whnf)
        | (refine And.intro fitzF ?_; conv => whnf)
        | (refine ⟨_, whole_cell sF lo, clen sF lo, ?_⟩; conv => whnf)
        | (refine And.intro (clen sF lo) ?_; conv => whnf)
        | (refine And.intro (fitF lo) ?_; conv => whnf)
        | (refine ⟨_, setF lo, ?_⟩; conv => whnf)
        | (refine And.intro (fit1 lo (by decide)) ?_; conv => whnf)
        | (refine And.intro (fit1 rfl (by decide)) ?_; conv => whnf)
        | (refine ⟨_, sum_cell s25, rfl, ?_⟩; conv => whnf)
        | (refine ⟨_, set_n _, ?_⟩; conv => whnf)
        | (refine ⟨_, set_mn _, ?_⟩; conv => whnf)
        | (refine ⟨_, set_mx _, ?_⟩; conv => whnf)
        | (refine ⟨_, set_ce _, ?_⟩; conv => whnf)
        | (refine ⟨_, set_po _, ?_⟩; conv => whnf)
        | (refine ⟨_, set_s _, ?_⟩; conv => whnf)
        | (refine ⟨_, set_hi _, ?_⟩; conv => whnf)
        | (refine ⟨_, set_lo _, ?_⟩; conv => whnf)
        | (refine And.intro (fun _ => ?_) tf; conv => whnf)
        | (refine And.intro ft (fun _ => ?_); conv => whnf)
        | (refine And.intro (by kernel_rfl) ?_; conv => whnf)
        | (refine And.intro (by decide) ?_; conv => whnf)
        | (refine And.intro (fun _ => ?_) (fun h => absurd h (by decide)); conv => whnf)
        | (refine And.intro (fun h => absurd h (by decide)) (fun _ => ?_); conv => whnf)
        | (refine And.intro (fun _ => ?_) (fun _ => ?_) <;> conv => whnf)
        | (refine ⟨_, _, w3.pu rfl rfl, ?_⟩; conv => whnf)))
      all_goals try (refine Or.inl ?_; conv => whnf)
    all_goals try exact (noLt ‹_›).elim
    all_goals refine ⟨[], ?_⟩
    repeat (any_goals (first | exact True.intro | exact rfl | with_reducible_and_instances rfl | exact (by kernel_rfl) | refine And.intro ?_ ?_))
    all_goals conv => whnf
    show AV.d (.agg (cR ⟨o.n, wideZ (hiZ S) (loZ S), o.mn, o.mx, o.ce, o.po, o.h⟩)) = _
    rw [wide_split]
theorem mergeL_zero {h : List Int} (hl : h.length = 65) : mergeL [h, z65] = h := by
  refine ext65 (mergeL_len _) hl fun j hj => ?_
  rw [mergeL_at hj]
  have : z65[j]?.getD 0 = 0 := by unfold z65; rw [List.getElem?_replicate, if_pos hj]; rfl
  simp [sumAt, this]
def tc : Bool → Cel
  | true => ⟨0, 0, 0, 0, 1, 0, z65⟩
  | false => ⟨0, 0, 0, 0, 0, 1, z65⟩
theorem tc_ok (b : Bool) : CelOK (tc b) := by cases b <;> exact ⟨by decide, by decide, by decide, by decide, by decide, by decide, by decide, by decide⟩
theorem note_two {c : Cel} {b : Bool} (hc : CelOK c) (hr : RightC c) : (fits2 c (tc b) ↔ (if b then c.ce else c.po) ≠ big) ∧ (fits2 c (tc b) → join2 c (tc b) = (noteC c b).1) := by
  have hx : ∀ j, j < 65 → sumAt [c.h, z65] j ≤ 9223372036854775807 := fun j hj => by
    have e : sumAt [c.h, z65] j = c.h[j]?.getD 0 := by
      have := mergeL_at (ls := [c.h, z65]) hj
      rw [mergeL_zero hc.hl] at this
      exact this.symm
    rw [e, List.getElem?_eq_getElem (by rw [hc.hl]; exact hj)]
    exact (hc.hx _ (List.getElem_mem _)).2
  obtain ⟨m1, m2⟩ := merge_fine (ls := [c.h, z65]) (by rw [List.all_cons, List.all_cons, hr.ok]; decide) hx
  rw [mergeL_zero hc.hl] at m2
  have h1 := hc.ce
  have h2 := hc.po
  have h3 := hr.ce
  have h4 := hr.po
  have h5 := hc.n
  have key : fits2 c (tc b) ↔ (if b then c.ce else c.po) ≠ big := by
    unfold fits2
    cases b
    · show (in64 (c.n + 0) ∧ in64 (c.ce + 0) ∧ in64 (c.po + 1) ∧ mergeE [c.h, z65] = 0 ∧ in128 (c.s + 0)) ↔ c.po ≠ big
      rw [m1, Int.add_zero, Int.add_zero, Int.add_zero]
      have hs := hc.s
      constructor
      · rintro ⟨_, _, q, _⟩ e; unfold in64 at q; unfold big at e; omega
      · intro e; exact ⟨h5, h1, by unfold in64 at *; unfold big at e; omega, rfl, hs⟩
    · show (in64 (c.n + 0) ∧ in64 (c.ce + 1) ∧ in64 (c.po + 0) ∧ mergeE [c.h, z65] = 0 ∧ in128 (c.s + 0)) ↔ c.ce ≠ big
      rw [m1, Int.add_zero, Int.add_zero, Int.add_zero]
      have hs := hc.s
      constructor
      · rintro ⟨_, q, _, _⟩ e; unfold in64 at q; unfold big at e; omega
      · intro e; exact ⟨h5, by unfold in64 at *; unfold big at e; omega, h2, rfl, hs⟩
  refine ⟨key, fun hf => ?_⟩
  rw [noteC_fine hr (key.1 hf)]
  have e0 : (tc b).n = 0 := by cases b <;> rfl
  have e1 : (tc b).s = 0 := by cases b <;> rfl
  have e2 : (tc b).h = z65 := by cases b <;> rfl
  refine Cel.ext' (by show c.n + (tc b).n = c.n; omega) (by show c.s + (tc b).s = c.s; omega) (by show lowZ2 c (tc b) = c.mn; unfold lowZ2; rw [if_pos e0]) (by show highZ2 c (tc b) = c.mx; unfold highZ2; rw [if_pos e0]) ?_ ?_ (by show mergeR [c.h, (tc b).h] = c.h; rw [e2, m2])
  · cases b
    · show c.ce + 0 = c.ce; omega
    · rfl
  · cases b
    · rfl
    · show c.po + 0 = c.po; omega
theorem build_ce : sets (List.map D.v (tiOf Try.prog 32).zero) 5 [iD 1] = cR (tc true) := by rw [zeF]; rfl
theorem build_po : sets (List.map D.v (tiOf Try.prog 32).zero) 6 [iD 1] = cR (tc false) := by rw [zeF]; rfl
set_option maxHeartbeats 16000000 in
theorem refNote_sat (c : Cel) (b : Bool) (hc : CelOK c) : Sat Try.prog 18 [.d (cD c), bA b] [] (.tup [.d (cD (noteC c b).1), iA (noteC c b).2]) [] := by
  have hl := hc.hl
  have r1 := refRight_sat_c c hc
  by_cases hr : rightC c = true
  case neg =>
    have hr : rightC c = false := by simpa using hr
    have e : noteC c b = (zC, 10) := by unfold noteC; rw [if_pos hr]
    rw [e]
    rw [hr] at r1
    refine sat_of_vc (T := tiOf Try.prog) (E := E0) Try.func18 rfl rfl hE0 hm0 rfl ?_
    conv => whnf
    iterate 3
      repeat (any_goals (first
        | exact True.intro
        | (refine ⟨_, drop_id, ?_⟩; conv => whnf)
        | (refine ⟨_, _, at_n, ?_⟩; conv => whnf)
        | (refine ⟨_, _, at_hi, ?_⟩; conv => whnf)
        | (refine ⟨_, _, at_lo, ?_⟩; conv => whnf)
        | (refine ⟨_, _, at_mn, ?_⟩; conv => whnf)
        | (refine ⟨_, _, at_mx, ?_⟩; conv => whnf)
        | (refine ⟨_, _, at_ce, ?_⟩; conv => whnf)
        | (refine ⟨_, _, at_po, ?_⟩; conv => whnf)
        | (refine ⟨_, whole_z sC, clenz sC, ?_⟩; conv => whnf)
        | (refine ⟨_, setzC, ?_⟩; conv => whnf)
        | (refine And.intro (clenz sC) ?_; conv => whnf)
        | (refine And.intro fitzC ?_; conv => whnf)
        | (refine ⟨_, whole_cell sC hl, clen sC hl, ?_⟩; conv => whnf)
        | (refine And.intro (clen sC hl) ?_; conv => whnf)
        | (refine And.intro (fitC hl) ?_; conv => whnf)
        | (refine ⟨_, setC hl, ?_⟩; conv => whnf)
        | (refine ⟨_, whole_z sF, clenz sF, ?_⟩; conv => whnf)
        | (refine ⟨_, setzF, ?_⟩; conv => whnf)
        | (refine And.intro (clenz sF) ?_; conv => whnf)
        | (refine And.intro fitzF ?_; conv => whnf)
        | (refine ⟨_, whole_cell sF hl, clen sF hl, ?_⟩; conv => whnf)
        | (refine And.intro (clen sF hl) ?_; conv => whnf)
        | (refine And.intro (fitF hl) ?_; conv => whnf)
        | (refine ⟨_, setF hl, ?_⟩; conv => whnf)
        | (refine And.intro (fit1 hl (by decide)) ?_; conv => whnf)
        | (refine And.intro (fit1 rfl (by decide)) ?_; conv => whnf)
        | (refine ⟨_, sum_cell s25, rfl, ?_⟩; conv => whnf)
        | (refine ⟨_, set_n _, ?_⟩; conv => whnf)
        | (refine ⟨_, set_mn _, ?_⟩; conv => whnf)
        | (refine ⟨_, set_mx _, ?_⟩; conv => whnf)
        | (refine ⟨_, set_ce _, ?_⟩; conv => whnf)
        | (refine ⟨_, set_po _, ?_⟩; conv => whnf)
        | (refine ⟨_, set_s _, ?_⟩; conv => whnf)
        | (refine ⟨_, set_hi _, ?_⟩; conv => whnf)
        | (refine ⟨_, set_lo _, ?_⟩; conv => whnf)
        | (refine And.intro (fun _ => ?_) tf; conv => whnf)
        | (refine And.intro ft (fun _ => ?_); conv => whnf)
        | (refine And.intro (by kernel_rfl) ?_; conv => whnf)
        | (refine And.intro (by decide) ?_; conv => whnf)
        | (refine And.intro (fun _ => ?_) (fun h => absurd h (by decide)); conv => whnf)
        | (refine And.intro (fun h => absurd h (by decide)) (fun _ => ?_); conv => whnf)
        | (refine And.intro (fun _ => ?_) (fun _ => ?_) <;> conv => whnf)
        | (refine ⟨_, _, r1.pu rfl rfl, ?_⟩; conv => whnf)))
      all_goals try (refine Or.inl ?_; conv => whnf)
    all_goals refine ⟨[], ?_⟩
    repeat (any_goals (first | exact True.intro | exact rfl | with_reducible_and_instances rfl | exact (by kernel_rfl) | refine And.intro ?_ ?_))
    all_goals conv => whnf
  have hR := right_iff.1 hr
  rw [hr] at r1
  obtain ⟨k1, k2⟩ := note_two (b := b) hc hR
  have tl : (tc b).h.length = 65 := (tc_ok b).hl
  by_cases hf : fits2 c (tc b)
  · have t1 := two_sat c (tc b) hc (tc_ok b) hf
    rw [k2 hf] at t1
    have e : noteC c b = ((noteC c b).1, 0) := by rw [noteC_fine hR (k1.1 hf)]
    have oo := noteC_ok (b := b) hc hR (k1.1 hf)
    have lo := oo.hl
    rw [e]
    generalize (noteC c b).1 = o at *
    clear k1 k2 e
    refine sat_of_vc (T := tiOf Try.prog) (E := E0) Try.func18 rfl rfl hE0 hm0 rfl ?_
    conv => whnf
    cases b
    · iterate 4
        repeat (any_goals (first
          | exact True.intro
          | (refine ⟨_, build_po, ?_⟩; conv => whnf)
          | (refine ⟨_, drop_id, ?_⟩; conv => whnf)
          | (refine ⟨_, _, at_n, ?_⟩; conv => whnf)
          | (refine ⟨_, _, at_hi, ?_⟩; conv => whnf)
          | (refine ⟨_, _, at_lo, ?_⟩; conv => whnf)
          | (refine ⟨_, _, at_mn, ?_⟩; conv => whnf)
          | (refine ⟨_, _, at_mx, ?_⟩; conv => whnf)
          | (refine ⟨_, _, at_ce, ?_⟩; conv => whnf)
          | (refine ⟨_, _, at_po, ?_⟩; conv => whnf)
          | (refine ⟨_, whole_z sC, clenz sC, ?_⟩; conv => whnf)
          | (refine ⟨_, setzC, ?_⟩; conv => whnf)
          | (refine And.intro (clenz sC) ?_; conv => whnf)
          | (refine And.intro fitzC ?_; conv => whnf)
          | (refine ⟨_, whole_cell sC hl, clen sC hl, ?_⟩; conv => whnf)
          | (refine And.intro (clen sC hl) ?_; conv => whnf)
          | (refine And.intro (fitC hl) ?_; conv => whnf)
          | (refine ⟨_, setC hl, ?_⟩; conv => whnf)
          | (refine ⟨_, whole_cell sC tl, clen sC tl, ?_⟩; conv => whnf)
          | (refine And.intro (clen sC tl) ?_; conv => whnf)
          | (refine And.intro (fitC tl) ?_; conv => whnf)
          | (refine ⟨_, setC tl, ?_⟩; conv => whnf)
          | (refine ⟨_, whole_cell sC lo, clen sC lo, ?_⟩; conv => whnf)
          | (refine And.intro (clen sC lo) ?_; conv => whnf)
          | (refine And.intro (fitC lo) ?_; conv => whnf)
          | (refine ⟨_, setC lo, ?_⟩; conv => whnf)
          | (refine ⟨_, whole_z sF, clenz sF, ?_⟩; conv => whnf)
          | (refine ⟨_, setzF, ?_⟩; conv => whnf)
          | (refine And.intro (clenz sF) ?_; conv => whnf)
          | (refine And.intro fitzF ?_; conv => whnf)
          | (refine ⟨_, whole_cell sF hl, clen sF hl, ?_⟩; conv => whnf)
          | (refine And.intro (clen sF hl) ?_; conv => whnf)
          | (refine And.intro (fitF hl) ?_; conv => whnf)
          | (refine ⟨_, setF hl, ?_⟩; conv => whnf)
          | (refine ⟨_, whole_cell sF tl, clen sF tl, ?_⟩; conv => whnf)
          | (refine And.intro (clen sF tl) ?_; conv => whnf)
          | (refine And.intro (fitF tl) ?_; conv => whnf)
          | (refine ⟨_, setF tl, ?_⟩; conv => whnf)
          | (refine ⟨_, whole_cell sF lo, clen sF lo, ?_⟩; conv => whnf)
          | (refine And.intro (clen sF lo) ?_; conv => whnf)
          | (refine And.intro (fitF lo) ?_; conv => whnf)
          | (refine ⟨_, setF lo, ?_⟩; conv => whnf)
          | (refine And.intro (fit1 hl (by decide)) ?_; conv => whnf)
          | (refine And.intro (fit1 tl (by decide)) ?_; conv => whnf)
          | (refine And.intro (fit1 lo (by decide)) ?_; conv => whnf)
          | (refine And.intro (fit1 rfl (by decide)) ?_; conv => whnf)
          | (refine ⟨_, sum_cell s25, rfl, ?_⟩; conv => whnf)
          | (refine ⟨_, set_n _, ?_⟩; conv => whnf)
          | (refine ⟨_, set_mn _, ?_⟩; conv => whnf)
          | (refine ⟨_, set_mx _, ?_⟩; conv => whnf)
          | (refine ⟨_, set_ce _, ?_⟩; conv => whnf)
          | (refine ⟨_, set_po _, ?_⟩; conv => whnf)
          | (refine ⟨_, set_s _, ?_⟩; conv => whnf)
          | (refine ⟨_, set_hi _, ?_⟩; conv => whnf)
          | (refine ⟨_, set_lo _, ?_⟩; conv => whnf)
          | (refine And.intro (fun _ => ?_) tf; conv => whnf)
          | (refine And.intro ft (fun _ => ?_); conv => whnf)
          | (refine And.intro (by kernel_rfl) ?_; conv => whnf)
          | (refine And.intro (by decide) ?_; conv => whnf)
          | (refine And.intro (fun _ => ?_) (fun h => absurd h (by decide)); conv => whnf)
          | (refine And.intro (fun h => absurd h (by decide)) (fun _ => ?_); conv => whnf)
          | (refine And.intro (fun _ => ?_) (fun _ => ?_) <;> conv => whnf)
          | (refine ⟨_, _, r1.pu rfl rfl, ?_⟩; conv => whnf)
          | (refine ⟨_, _, t1.pu rfl rfl, ?_⟩; conv => whnf)))
        all_goals try (refine Or.inl ?_; conv => whnf)
      all_goals try (exfalso; simp only [decide_eq_true_eq, decide_eq_false_iff_not, Bool.not_eq_true', Bool.not_eq_false', Bool.not_eq_true, Bool.not_eq_false, beq_iff_eq, bne_iff_ne, beq_eq_false_iff_ne, bne_eq_false_iff_eq, ne_eq, Decidable.not_not] at *; first | omega | contradiction | (simp_all; done) | (simp_all; omega))
      all_goals refine ⟨[], ?_⟩
      repeat (any_goals (first | exact True.intro | exact rfl | with_reducible_and_instances rfl | exact (by kernel_rfl) | refine And.intro ?_ ?_))
      all_goals conv => whnf
    · iterate 4
        repeat (any_goals (first
          | exact True.intro
          | (refine ⟨_, build_ce, ?_⟩; conv => whnf)
          | (refine ⟨_, drop_id, ?_⟩; conv => whnf)
          | (refine ⟨_, _, at_n, ?_⟩; conv => whnf)
          | (refine ⟨_, _, at_hi, ?_⟩; conv => whnf)
          | (refine ⟨_, _, at_lo, ?_⟩; conv => whnf)
          | (refine ⟨_, _, at_mn, ?_⟩; conv => whnf)
          | (refine ⟨_, _, at_mx, ?_⟩; conv => whnf)
          | (refine ⟨_, _, at_ce, ?_⟩; conv => whnf)
          | (refine ⟨_, _, at_po, ?_⟩; conv => whnf)
          | (refine ⟨_, whole_z sC, clenz sC, ?_⟩; conv => whnf)
          | (refine ⟨_, setzC, ?_⟩; conv => whnf)
          | (refine And.intro (clenz sC) ?_; conv => whnf)
          | (refine And.intro fitzC ?_; conv => whnf)
          | (refine ⟨_, whole_cell sC hl, clen sC hl, ?_⟩; conv => whnf)
          | (refine And.intro (clen sC hl) ?_; conv => whnf)
          | (refine And.intro (fitC hl) ?_; conv => whnf)
          | (refine ⟨_, setC hl, ?_⟩; conv => whnf)
          | (refine ⟨_, whole_cell sC tl, clen sC tl, ?_⟩; conv => whnf)
          | (refine And.intro (clen sC tl) ?_; conv => whnf)
          | (refine And.intro (fitC tl) ?_; conv => whnf)
          | (refine ⟨_, setC tl, ?_⟩; conv => whnf)
          | (refine ⟨_, whole_cell sC lo, clen sC lo, ?_⟩; conv => whnf)
          | (refine And.intro (clen sC lo) ?_; conv => whnf)
          | (refine And.intro (fitC lo) ?_; conv => whnf)
          | (refine ⟨_, setC lo, ?_⟩; conv => whnf)
          | (refine ⟨_, whole_z sF, clenz sF, ?_⟩; conv => whnf)
          | (refine ⟨_, setzF, ?_⟩; conv => whnf)
          | (refine And.intro (clenz sF) ?_; conv => whnf)
          | (refine And.intro fitzF ?_; conv => whnf)
          | (refine ⟨_, whole_cell sF hl, clen sF hl, ?_⟩; conv => whnf)
          | (refine And.intro (clen sF hl) ?_; conv => whnf)
          | (refine And.intro (fitF hl) ?_; conv => whnf)
          | (refine ⟨_, setF hl, ?_⟩; conv => whnf)
          | (refine ⟨_, whole_cell sF tl, clen sF tl, ?_⟩; conv => whnf)
          | (refine And.intro (clen sF tl) ?_; conv => whnf)
          | (refine And.intro (fitF tl) ?_; conv => whnf)
          | (refine ⟨_, setF tl, ?_⟩; conv => whnf)
          | (refine ⟨_, whole_cell sF lo, clen sF lo, ?_⟩; conv => whnf)
          | (refine And.intro (clen sF lo) ?_; conv => whnf)
          | (refine And.intro (fitF lo) ?_; conv => whnf)
          | (refine ⟨_, setF lo, ?_⟩; conv => whnf)
          | (refine And.intro (fit1 hl (by decide)) ?_; conv => whnf)
          | (refine And.intro (fit1 tl (by decide)) ?_; conv => whnf)
          | (refine And.intro (fit1 lo (by decide)) ?_; conv => whnf)
          | (refine And.intro (fit1 rfl (by decide)) ?_; conv => whnf)
          | (refine ⟨_, sum_cell s25, rfl, ?_⟩; conv => whnf)
          | (refine ⟨_, set_n _, ?_⟩; conv => whnf)
          | (refine ⟨_, set_mn _, ?_⟩; conv => whnf)
          | (refine ⟨_, set_mx _, ?_⟩; conv => whnf)
          | (refine ⟨_, set_ce _, ?_⟩; conv => whnf)
          | (refine ⟨_, set_po _, ?_⟩; conv => whnf)
          | (refine ⟨_, set_s _, ?_⟩; conv => whnf)
          | (refine ⟨_, set_hi _, ?_⟩; conv => whnf)
          | (refine ⟨_, set_lo _, ?_⟩; conv => whnf)
          | (refine And.intro (fun _ => ?_) tf; conv => whnf)
          | (refine And.intro ft (fun _ => ?_); conv => whnf)
          | (refine And.intro (by kernel_rfl) ?_; conv => whnf)
          | (refine And.intro (by decide) ?_; conv => whnf)
          | (refine And.intro (fun _ => ?_) (fun h => absurd h (by decide)); conv => whnf)
          | (refine And.intro (fun h => absurd h (by decide)) (fun _ => ?_); conv => whnf)
          | (refine And.intro (fun _ => ?_) (fun _ => ?_) <;> conv => whnf)
          | (refine ⟨_, _, r1.pu rfl rfl, ?_⟩; conv => whnf)
          | (refine ⟨_, _, t1.pu rfl rfl, ?_⟩; conv => whnf)))
        all_goals try (refine Or.inl ?_; conv => whnf)
      all_goals try (exfalso; simp only [decide_eq_true_eq, decide_eq_false_iff_not, Bool.not_eq_true', Bool.not_eq_false', Bool.not_eq_true, Bool.not_eq_false, beq_iff_eq, bne_iff_ne, beq_eq_false_iff_ne, bne_eq_false_iff_eq, ne_eq, Decidable.not_not] at *; first | omega | contradiction | (simp_all; done) | (simp_all; omega))
      all_goals refine ⟨[], ?_⟩
      repeat (any_goals (first | exact True.intro | exact rfl | with_reducible_and_instances rfl | exact (by kernel_rfl) | refine And.intro ?_ ?_))
      all_goals conv => whnf
  · have t1 := two_err c (tc b) hc (tc_ok b) hf
    have e : noteC c b = (zC, 12) := by
      unfold noteC
      rw [if_neg (by rw [hr]; simp), if_pos (Decidable.not_not.1 fun q => hf (k1.2 q))]
    rw [e]
    clear k1 k2 e
    refine sat_of_vc (T := tiOf Try.prog) (E := E0) Try.func18 rfl rfl hE0 hm0 rfl ?_
    conv => whnf
    cases b
    · iterate 4
        repeat (any_goals (first
          | exact True.intro
          | (refine ⟨_, build_po, ?_⟩; conv => whnf)
          | (refine ⟨_, drop_id, ?_⟩; conv => whnf)
          | (refine ⟨_, _, at_n, ?_⟩; conv => whnf)
          | (refine ⟨_, _, at_hi, ?_⟩; conv => whnf)
          | (refine ⟨_, _, at_lo, ?_⟩; conv => whnf)
          | (refine ⟨_, _, at_mn, ?_⟩; conv => whnf)
          | (refine ⟨_, _, at_mx, ?_⟩; conv => whnf)
          | (refine ⟨_, _, at_ce, ?_⟩; conv => whnf)
          | (refine ⟨_, _, at_po, ?_⟩; conv => whnf)
          | (refine ⟨_, whole_z sC, clenz sC, ?_⟩; conv => whnf)
          | (refine ⟨_, setzC, ?_⟩; conv => whnf)
          | (refine And.intro (clenz sC) ?_; conv => whnf)
          | (refine And.intro fitzC ?_; conv => whnf)
          | (refine ⟨_, whole_cell sC hl, clen sC hl, ?_⟩; conv => whnf)
          | (refine And.intro (clen sC hl) ?_; conv => whnf)
          | (refine And.intro (fitC hl) ?_; conv => whnf)
          | (refine ⟨_, setC hl, ?_⟩; conv => whnf)
          | (refine ⟨_, whole_cell sC tl, clen sC tl, ?_⟩; conv => whnf)
          | (refine And.intro (clen sC tl) ?_; conv => whnf)
          | (refine And.intro (fitC tl) ?_; conv => whnf)
          | (refine ⟨_, setC tl, ?_⟩; conv => whnf)
          | (refine ⟨_, whole_z sF, clenz sF, ?_⟩; conv => whnf)
          | (refine ⟨_, setzF, ?_⟩; conv => whnf)
          | (refine And.intro (clenz sF) ?_; conv => whnf)
          | (refine And.intro fitzF ?_; conv => whnf)
          | (refine ⟨_, whole_cell sF hl, clen sF hl, ?_⟩; conv => whnf)
          | (refine And.intro (clen sF hl) ?_; conv => whnf)
          | (refine And.intro (fitF hl) ?_; conv => whnf)
          | (refine ⟨_, setF hl, ?_⟩; conv => whnf)
          | (refine ⟨_, whole_cell sF tl, clen sF tl, ?_⟩; conv => whnf)
          | (refine And.intro (clen sF tl) ?_; conv => whnf)
          | (refine And.intro (fitF tl) ?_; conv => whnf)
          | (refine ⟨_, setF tl, ?_⟩; conv => whnf)
          | (refine And.intro (fit1 hl (by decide)) ?_; conv => whnf)
          | (refine And.intro (fit1 tl (by decide)) ?_; conv => whnf)
          | (refine And.intro (fit1 rfl (by decide)) ?_; conv => whnf)
          | (refine ⟨_, sum_cell s25, rfl, ?_⟩; conv => whnf)
          | (refine ⟨_, set_n _, ?_⟩; conv => whnf)
          | (refine ⟨_, set_mn _, ?_⟩; conv => whnf)
          | (refine ⟨_, set_mx _, ?_⟩; conv => whnf)
          | (refine ⟨_, set_ce _, ?_⟩; conv => whnf)
          | (refine ⟨_, set_po _, ?_⟩; conv => whnf)
          | (refine ⟨_, set_s _, ?_⟩; conv => whnf)
          | (refine ⟨_, set_hi _, ?_⟩; conv => whnf)
          | (refine ⟨_, set_lo _, ?_⟩; conv => whnf)
          | (refine And.intro (fun _ => ?_) tf; conv => whnf)
          | (refine And.intro ft (fun _ => ?_); conv => whnf)
          | (refine And.intro (by kernel_rfl) ?_; conv => whnf)
          | (refine And.intro (by decide) ?_; conv => whnf)
          | (refine And.intro (fun _ => ?_) (fun h => absurd h (by decide)); conv => whnf)
          | (refine And.intro (fun h => absurd h (by decide)) (fun _ => ?_); conv => whnf)
          | (refine And.intro (fun _ => ?_) (fun _ => ?_) <;> conv => whnf)
          | (refine ⟨_, _, r1.pu rfl rfl, ?_⟩; conv => whnf)
          | (refine ⟨_, _, t1.pu rfl rfl, ?_⟩; conv => whnf)))
        all_goals try (refine Or.inl ?_; conv => whnf)
      all_goals try (exfalso; simp only [decide_eq_true_eq, decide_eq_false_iff_not, Bool.not_eq_true', Bool.not_eq_false', Bool.not_eq_true, Bool.not_eq_false, beq_iff_eq, bne_iff_ne, beq_eq_false_iff_ne, bne_eq_false_iff_eq, ne_eq, Decidable.not_not] at *; first | omega | contradiction | (simp_all; done) | (simp_all; omega))
      all_goals refine ⟨[], ?_⟩
      repeat (any_goals (first | exact True.intro | exact rfl | with_reducible_and_instances rfl | exact (by kernel_rfl) | refine And.intro ?_ ?_))
      all_goals conv => whnf
    · iterate 4
        repeat (any_goals (first
          | exact True.intro
          | (refine ⟨_, build_ce, ?_⟩; conv => whnf)
          | (refine ⟨_, drop_id, ?_⟩; conv => whnf)
          | (refine ⟨_, _, at_n, ?_⟩; conv => whnf)
          | (refine ⟨_, _, at_hi, ?_⟩; conv => whnf)
          | (refine ⟨_, _, at_lo, ?_⟩; conv => whnf)
          | (refine ⟨_, _, at_mn, ?_⟩; conv => whnf)
          | (refine ⟨_, _, at_mx, ?_⟩; conv => whnf)
          | (refine ⟨_, _, at_ce, ?_⟩; conv => whnf)
          | (refine ⟨_, _, at_po, ?_⟩; conv => whnf)
          | (refine ⟨_, whole_z sC, clenz sC, ?_⟩; conv => whnf)
          | (refine ⟨_, setzC, ?_⟩; conv => whnf)
          | (refine And.intro (clenz sC) ?_; conv => whnf)
          | (refine And.intro fitzC ?_; conv => whnf)
          | (refine ⟨_, whole_cell sC hl, clen sC hl, ?_⟩; conv => whnf)
          | (refine And.intro (clen sC hl) ?_; conv => whnf)
          | (refine And.intro (fitC hl) ?_; conv => whnf)
          | (refine ⟨_, setC hl, ?_⟩; conv => whnf)
          | (refine ⟨_, whole_cell sC tl, clen sC tl, ?_⟩; conv => whnf)
          | (refine And.intro (clen sC tl) ?_; conv => whnf)
          | (refine And.intro (fitC tl) ?_; conv => whnf)
          | (refine ⟨_, setC tl, ?_⟩; conv => whnf)
          | (refine ⟨_, whole_z sF, clenz sF, ?_⟩; conv => whnf)
          | (refine ⟨_, setzF, ?_⟩; conv => whnf)
          | (refine And.intro (clenz sF) ?_; conv => whnf)
          | (refine And.intro fitzF ?_; conv => whnf)
          | (refine ⟨_, whole_cell sF hl, clen sF hl, ?_⟩; conv => whnf)
          | (refine And.intro (clen sF hl) ?_; conv => whnf)
          | (refine And.intro (fitF hl) ?_; conv => whnf)
          | (refine ⟨_, setF hl, ?_⟩; conv => whnf)
          | (refine ⟨_, whole_cell sF tl, clen sF tl, ?_⟩; conv => whnf)
          | (refine And.intro (clen sF tl) ?_; conv => whnf)
          | (refine And.intro (fitF tl) ?_; conv => whnf)
          | (refine ⟨_, setF tl, ?_⟩; conv => whnf)
          | (refine And.intro (fit1 hl (by decide)) ?_; conv => whnf)
          | (refine And.intro (fit1 tl (by decide)) ?_; conv => whnf)
          | (refine And.intro (fit1 rfl (by decide)) ?_; conv => whnf)
          | (refine ⟨_, sum_cell s25, rfl, ?_⟩; conv => whnf)
          | (refine ⟨_, set_n _, ?_⟩; conv => whnf)
          | (refine ⟨_, set_mn _, ?_⟩; conv => whnf)
          | (refine ⟨_, set_mx _, ?_⟩; conv => whnf)
          | (refine ⟨_, set_ce _, ?_⟩; conv => whnf)
          | (refine ⟨_, set_po _, ?_⟩; conv => whnf)
          | (refine ⟨_, set_s _, ?_⟩; conv => whnf)
          | (refine ⟨_, set_hi _, ?_⟩; conv => whnf)
          | (refine ⟨_, set_lo _, ?_⟩; conv => whnf)
          | (refine And.intro (fun _ => ?_) tf; conv => whnf)
          | (refine And.intro ft (fun _ => ?_); conv => whnf)
          | (refine And.intro (by kernel_rfl) ?_; conv => whnf)
          | (refine And.intro (by decide) ?_; conv => whnf)
          | (refine And.intro (fun _ => ?_) (fun h => absurd h (by decide)); conv => whnf)
          | (refine And.intro (fun h => absurd h (by decide)) (fun _ => ?_); conv => whnf)
          | (refine And.intro (fun _ => ?_) (fun _ => ?_) <;> conv => whnf)
          | (refine ⟨_, _, r1.pu rfl rfl, ?_⟩; conv => whnf)
          | (refine ⟨_, _, t1.pu rfl rfl, ?_⟩; conv => whnf)))
        all_goals try (refine Or.inl ?_; conv => whnf)
      all_goals try (exfalso; simp only [decide_eq_true_eq, decide_eq_false_iff_not, Bool.not_eq_true', Bool.not_eq_false', Bool.not_eq_true, Bool.not_eq_false, beq_iff_eq, bne_iff_ne, beq_eq_false_iff_ne, bne_eq_false_iff_eq, ne_eq, Decidable.not_not] at *; first | omega | contradiction | (simp_all; done) | (simp_all; omega))
      all_goals refine ⟨[], ?_⟩
      repeat (any_goals (first | exact True.intro | exact rfl | with_reducible_and_instances rfl | exact (by kernel_rfl) | refine And.intro ?_ ?_))
      all_goals conv => whnf
end Go.Proofs.Ytbjmdnemeidpjaa
/- code, by conditions: Uints, Ints, Texts, bytes.Clone; the reader. -/
namespace Go.Proofs.Ytbjmdnemeidpjaa
set_option linter.unusedSimpArgs false
set_option linter.unusedVariables false
open Go.RowKit
set_option maxRecDepth 100000
section
variable {P : Program} {g : FuncId}
/-- A contract whose answer is a slice of its own, out of an elder one. -/
theorem Sat.ownNew1 {s0 s : Nat} {rows0 rows : List (List D)} {us0 us : List Value} {e : TypeId} (hf0 : FlatVs rows0.flatten us0) (hf : FlatVs rows.flatten us) (hs : ∀ r ∈ rows, r.length = s) (h0 : 0 < rows.length)
    (h : ∀ (w : World) (A : Option Addr) (c : Nat), rows0.length ≤ c → c ≤ maxLen → Rd w w.heap.size s0 A rows0.length us0 → Calls P g #[.slice A rows0.length c] w fun x w' => ∃ v, x = .returned v ∧ Ow w' w.heap.size e s v rows.length us ∧ Below w.heap.size w w') :
    Sat P g [.d (.sl s0 rows0)] [] (.own 0) [.sl s rows] := by
  intro F ρ w vals En hv
  obtain ⟨v, rfl, hv'⟩ := hv.one_out
  cases hv' with | d hv =>
    obtain ⟨A, c, rfl, h1, h2, hr⟩ := hv.sl_rd En.fb hf0
    refine (h w A c h1 h2 hr).mono ?_
    rintro x w' ⟨v, rfl, how, hb⟩
    have hlt : ∀ k, blkOf v = some k → k < w'.heap.size := fun k hk => by
      obtain ⟨g, off, cap, rfl, _, hg, _⟩ := how.open_ h0
      injection hk with hk
      subst hk
      exact hg
    have hG : w.grownBy w' none := ⟨hb.os, hb.tape, hb.output, hb.size, fun b h _ => hb.block b h⟩
    have hnone : hp ([] : List AObj) 0 = none := rfl
    obtain ⟨A', c', he, g1, g2, hrd⟩ := how.form
    subst he
    have how0 : Ow w' 0 0 s (.slice A' rows.length c') rows.length us := ⟨how.1, by
      rcases how.2 with h | ⟨a, h, _, h'⟩ | ⟨g, off, cap, h, _, h'⟩
      · exact .inl h
      · exact .inr (.inl ⟨a, h, Nat.zero_le _, h'⟩)
      · exact .inr (.inr ⟨g, off, cap, h, Nat.zero_le _, h'⟩)⟩
    obtain ⟨S, K, E⟩ := En.new (n := 0) (o' := .sl s rows) (h := .slice A' rows.length c') hnone hG (fun b hb' => ⟨how.lt b (by rw [← blk_own rfl]; exact hb'), hlt b hb'⟩) ⟨_, how0, hf.rds, hs⟩
    have e : updF (hp []) 0 (some (.sl s rows)) = hp [.sl s rows] := by
      funext i
      match i with
      | 0 => rfl
      | i + 1 => rfl
    rw [e] at S E
    exact ⟨_, rfl, F, _, S, K, E, .own (updF_same _ _ _)⟩
end
abbrev byD (x : UInt8) : D := .v (.int .u8 (x.toNat : Int))
abbrev bR (x : UInt8) : List D := [byD x]
abbrev bsD (l : List UInt8) : D := .sl 1 (l.map bR)
theorem bR_flats : ∀ (l : List UInt8), FlatVs (l.map bR).flatten (l.map bv)
  | [] => .nil
  | _ :: l => .cons (.v _) rfl (bR_flats l)
abbrev uR (x : Nat) : List D := [.v (.int .u64 (x : Int))]
theorem uR_flats : ∀ (l : List Nat), FlatVs (l.map uR).flatten (l.map u64v)
  | [] => .nil
  | _ :: l => .cons (.v _) rfl (uR_flats l)
abbrev strD (s : ByteArray) : D := .v (.string s)
theorem strR_flats : ∀ (l : List ByteArray), FlatVs (l.map fun s => [strD s]).flatten (l.map strv)
  | [] => .nil
  | _ :: l => .cons (.v _) rfl (strR_flats l)
theorem one_len {α : Type} {f : α → D} {l : List α} : ∀ r ∈ l.map (fun x => [f x]), r.length = 1 := fun r hr => by
  obtain ⟨x, _, rfl⟩ := List.mem_map.1 hr; rfl
theorem uints_sat (l : List Nat) (hn : l.length ≤ 65536) (hl : ∀ x ∈ l, x < 18446744073709551616) (h0 : 0 < (encs l).length) : Sat Try.prog 70 [.d (.sl 1 (l.map uR))] [] (.own 0) [.sl 1 ((encs l).map bR)] :=
  .ownNew1 (uR_flats l) (bR_flats (encs l)) one_len (by rw [List.length_map]; exact h0) fun w A c _ _ hr => by
    rw [List.length_map] at hr ⊢
    rw [List.length_map]
    exact uints_any A _ c l w hr hn hl
theorem ints_sat (l : List Int) (hn : l.length ≤ 65536) (hl : ∀ x ∈ l, in64 x) (h0 : 0 < (encs (l.map turnN)).length) : Sat Try.prog 71 [.d (lD l)] [] (.own 0) [.sl 1 ((encs (l.map turnN)).map bR)] :=
  .ownNew1 (lR_flats l) (bR_flats (encs (l.map turnN))) one_len (by rw [List.length_map]; exact h0) fun w A c _ _ hr => by
    rw [List.length_map] at hr ⊢
    rw [List.length_map]
    exact ints_any A _ c l w hr hn hl
theorem texts_sat (l : List ByteArray) (hn : l.length ≤ 65536) (hl : ∀ x ∈ l, x.size ≤ 65536) (h0 : 0 < (encTs l).length) : Sat Try.prog 72 [.d (.sl 1 (l.map fun s => [strD s]))] [] (.own 0) [.sl 1 ((encTs l).map bR)] :=
  .ownNew1 (strR_flats l) (bR_flats (encTs l)) one_len (by rw [List.length_map]; exact h0) fun w A c _ _ hr => by
    rw [List.length_map] at hr ⊢
    rw [List.length_map]
    exact texts_any A _ c 0 l w hr hn hl
theorem bclone_sat (l : List UInt8) (hn : l.length ≤ 65536) (h0 : 0 < l.length) : Sat Try.prog 96 [.d (bsD l)] [] (.own 0) [.sl 1 (l.map bR)] :=
  .ownNew1 (bR_flats l) (bR_flats l) one_len (by rw [List.length_map]; exact h0) fun w A c _ _ hr => by
    rw [List.length_map] at hr ⊢
    exact clone_any A _ c l w hr (by omega)
theorem first_sat (l : List UInt8) (hn : l.length ≤ 65536) : Sat Try.prog 97 [.d (bsD l)] [] (.tup [.d (.v (.int .u64 ((dec l).1 : Nat))), iA ((dec l).2.1 : Nat), iA ((dec l).2.2 : Nat)]) [] :=
  .of_sl (bR_flats l) .nil (.tup (.cons (.d (.v _)) (.cons (.d (.v _)) (.cons (.d (.v _)) .nil)))) fun w A c _ _ hr => by
    rw [List.length_map] at hr ⊢
    refine (first_any A _ c l w hr (by omega)).mono ?_
    rintro e w' ⟨rfl, rfl⟩
    exact ⟨rfl, Below.refl _ _⟩
theorem count_sat (l : List UInt8) (most : Int) (hm : in64 most) (hn : l.length ≤ 65536) : Sat Try.prog 100 [.d (bsD l), iA most] [] (.tup [iA ((cnt l most).1 : Nat), iA ((cnt l most).2.1 : Nat), iA ((cnt l most).2.2 : Nat)]) [] :=
  .of_sl (bR_flats l) (.cons (.d (.v _)) .nil) (.tup (.cons (.d (.v _)) (.cons (.d (.v _)) (.cons (.d (.v _)) .nil)))) fun w A c _ _ hr => by
    rw [List.length_map] at hr ⊢
    refine (count_any A _ c l most w hr (by omega) hm.2).mono ?_
    rintro e w' ⟨rfl, rfl⟩
    exact ⟨rfl, Below.refl _ _⟩
/-- A reader: what is left, its error. -/
abbrev rdO (l : List UInt8) (e : Int) : AObj := .cells [.d (bsD l), iA e]
theorem take_sat (l : List UInt8) (k : Nat) (hk : k ≤ l.length) (hn : l.length ≤ 65536) : Sat Try.prog 98 [.ptr 0 0, iA k, iA 0] [rdO l 0] (bA true) [rdO (l.drop k) 0] := by
  refine sat_of_vc (T := tiOf Try.prog) (E := E0) Try.func98 rfl rfl hE0 hm0 rfl ?_
  conv => whnf
  iterate 5
    repeat (any_goals (first
      | exact True.intro
      | (refine And.intro (fun _ => ?_) tf; conv => whnf)
      | (refine And.intro ft (fun _ => ?_); conv => whnf)
      | (refine And.intro (by kernel_rfl) ?_; conv => whnf)
      | (refine And.intro (by decide) ?_; conv => whnf)
      | (refine And.intro (fun _ => ?_) (fun h => absurd h (by decide)); conv => whnf)
      | (refine And.intro (fun h => absurd h (by decide)) (fun _ => ?_); conv => whnf)
      | (refine And.intro (fun _ => ?_) (fun _ => ?_) <;> conv => whnf)
      | (refine ⟨_, _, from_d 1 1 (by kernel_rfl) (by simpa using hk), ?_⟩; conv => whnf)))
    all_goals try (refine Or.inl ?_; conv => whnf)
  all_goals refine ⟨[], ?_⟩
  repeat (any_goals (first | exact True.intro | exact rfl | with_reducible_and_instances rfl | exact (by kernel_rfl) | refine And.intro ?_ ?_))
  all_goals conv => whnf
  exact congrArg (fun r => AV.d (.sl 1 r)) (List.map_drop (f := bR) (l := l) (i := k)).symm
theorem dec_size (l : List UInt8) : (dec l).2.1 ≤ l.length := by
  have := (dec_bounds l 0 0 (dec l).1 (dec l).2.1 (dec l).2.2 (by omega) (by simp) rfl).2.1
  omega
theorem uint_sat (l : List UInt8) (hn : l.length ≤ 65536) (he : (dec l).2.2 = 0) : Sat Try.prog 64 [.ptr 0 0] [rdO l 0] (.d (.v (.int .u64 ((dec l).1 : Nat)))) [rdO (l.drop (dec l).2.1) 0] := by
  have f1 := first_sat l hn
  rw [he] at f1
  have t1 := take_sat l (dec l).2.1 (dec_size l) hn
  refine sat_of_vc (T := tiOf Try.prog) (E := E0) Try.func64 rfl rfl hE0 hm0 rfl ?_
  conv => whnf
  iterate 5
    repeat (any_goals (first
      | exact True.intro
      | (refine And.intro (fun _ => ?_) tf; conv => whnf)
      | (refine And.intro ft (fun _ => ?_); conv => whnf)
      | (refine And.intro (by kernel_rfl) ?_; conv => whnf)
      | (refine And.intro (by decide) ?_; conv => whnf)
      | (refine And.intro (fun _ => ?_) (fun h => absurd h (by decide)); conv => whnf)
      | (refine And.intro (fun h => absurd h (by decide)) (fun _ => ?_); conv => whnf)
      | (refine And.intro (fun _ => ?_) (fun _ => ?_) <;> conv => whnf)
      | (refine ⟨_, _, f1.pu rfl rfl, ?_⟩; conv => whnf)
      | (refine ⟨_, _, t1.at1 0 rfl rfl rfl, ?_⟩; conv => whnf)))
    all_goals try (refine Or.inl ?_; conv => whnf)
  all_goals refine ⟨[], ?_⟩
  repeat (any_goals (first | exact True.intro | exact rfl | with_reducible_and_instances rfl | exact (by kernel_rfl) | refine And.intro ?_ ?_))
  all_goals conv => whnf
theorem unturn_sat (u : Nat) (h : u < 18446744073709551616) : Sat Try.prog 99 [.d (.v (.int .u64 (u : Int)))] [] (iA (unturnZ u)) [] :=
  .of_same (.cons (.d (.v _)) .nil) (.d (.v _)) fun w => unturn_any u w h
theorem int_sat (l : List UInt8) (hn : l.length ≤ 65536) (he : (dec l).2.2 = 0) (hu : (dec l).1 < 18446744073709551616) : Sat Try.prog 65 [.ptr 0 0] [rdO l 0] (iA (unturnZ (dec l).1)) [rdO (l.drop (dec l).2.1) 0] := by
  have f1 := uint_sat l hn he
  have t1 := unturn_sat (dec l).1 hu
  refine sat_of_vc (T := tiOf Try.prog) (E := E0) Try.func65 rfl rfl hE0 hm0 rfl ?_
  conv => whnf
  iterate 5
    repeat (any_goals (first
      | exact True.intro
      | (refine And.intro (fun _ => ?_) tf; conv => whnf)
      | (refine And.intro ft (fun _ => ?_); conv => whnf)
      | (refine And.intro (by kernel_rfl) ?_; conv => whnf)
      | (refine And.intro (by decide) ?_; conv => whnf)
      | (refine And.intro (fun _ => ?_) (fun h => absurd h (by decide)); conv => whnf)
      | (refine And.intro (fun h => absurd h (by decide)) (fun _ => ?_); conv => whnf)
      | (refine And.intro (fun _ => ?_) (fun _ => ?_) <;> conv => whnf)
      | (refine ⟨_, _, f1.at1 0 rfl rfl rfl, ?_⟩; conv => whnf)
      | (refine ⟨_, _, t1.pu rfl rfl, ?_⟩; conv => whnf)))
    all_goals try (refine Or.inl ?_; conv => whnf)
  all_goals refine ⟨[], ?_⟩
  repeat (any_goals (first | exact True.intro | exact rfl | with_reducible_and_instances rfl | exact (by kernel_rfl) | refine And.intro ?_ ?_))
  all_goals conv => whnf
theorem count_size (l : List UInt8) (most : Int) : (cnt l most).2.1 ≤ l.length := (cnt_bounds l most).2.1
theorem countM_sat (l : List UInt8) (most : Int) (hm : in64 most) (hn : l.length ≤ 65536) (he : (cnt l most).2.2 = 0) : Sat Try.prog 67 [.ptr 0 0, iA most] [rdO l 0] (iA ((cnt l most).1 : Nat)) [rdO (l.drop (cnt l most).2.1) 0] := by
  have f1 := count_sat l most hm hn
  rw [he] at f1
  have t1 := take_sat l (cnt l most).2.1 (count_size l most) hn
  refine sat_of_vc (T := tiOf Try.prog) (E := E0) Try.func67 rfl rfl hE0 hm0 rfl ?_
  conv => whnf
  iterate 5
    repeat (any_goals (first
      | exact True.intro
      | (refine And.intro (fun _ => ?_) tf; conv => whnf)
      | (refine And.intro ft (fun _ => ?_); conv => whnf)
      | (refine And.intro (by kernel_rfl) ?_; conv => whnf)
      | (refine And.intro (by decide) ?_; conv => whnf)
      | (refine And.intro (fun _ => ?_) (fun h => absurd h (by decide)); conv => whnf)
      | (refine And.intro (fun h => absurd h (by decide)) (fun _ => ?_); conv => whnf)
      | (refine And.intro (fun _ => ?_) (fun _ => ?_) <;> conv => whnf)
      | (refine ⟨_, _, f1.pu rfl rfl, ?_⟩; conv => whnf)
      | (refine ⟨_, _, t1.at1 0 rfl rfl rfl, ?_⟩; conv => whnf)))
    all_goals try (refine Or.inl ?_; conv => whnf)
  all_goals refine ⟨[], ?_⟩
  repeat (any_goals (first | exact True.intro | exact rfl | with_reducible_and_instances rfl | exact (by kernel_rfl) | refine And.intro ?_ ?_))
  all_goals conv => whnf
theorem end_sat : Sat Try.prog 68 [.ptr 0 0] [rdO [] 0] (iA 0) [rdO [] 0] := by
  refine sat_of_vc (T := tiOf Try.prog) (E := E0) Try.func68 rfl rfl hE0 hm0 rfl ?_
  conv => whnf
  iterate 5
    repeat (any_goals (first
      | exact True.intro
      | (refine And.intro (fun _ => ?_) tf; conv => whnf)
      | (refine And.intro ft (fun _ => ?_); conv => whnf)
      | (refine And.intro (by kernel_rfl) ?_; conv => whnf)
      | (refine And.intro (by decide) ?_; conv => whnf)
      | (refine And.intro (fun _ => ?_) (fun h => absurd h (by decide)); conv => whnf)
      | (refine And.intro (fun h => absurd h (by decide)) (fun _ => ?_); conv => whnf)
      | (refine And.intro (fun _ => ?_) (fun _ => ?_) <;> conv => whnf)))
    all_goals try (refine Or.inl ?_; conv => whnf)
  all_goals refine ⟨[], ?_⟩
  repeat (any_goals (first | exact True.intro | exact rfl | with_reducible_and_instances rfl | exact (by kernel_rfl) | refine And.intro ?_ ?_))
  all_goals conv => whnf
/-- The string of bytes. -/
theorem str_d {L : List AObj} {ty n : Nat} {x : Operand} (l : List UInt8) : Does Try.prog (.convert 67 9 x) ty L n [.d (bsD l)] e0 (.d (strD ⟨l.toArray⟩)) := by
  intro o H F ρ w ev ho ht En _ _ hx
  have hops : (Op.operands (.convert 67 9 x)).toList = [x] := by simp [Op.operands]
  rw [hops] at hx
  obtain ⟨v, e, hv⟩ := hx.one_out
  cases hv with | d hv =>
  obtain ⟨A, c, rfl, h1, h2, hr⟩ := hv.sl_rd En.fb (bR_flats l)
  rw [List.length_map] at hr e
  have := string_any w A _ c l hr
  simp at e
  have hrun : (execOp ev o).run Try.prog w = .ok (.value (.string ⟨l.toArray⟩)) w := by
    simp [execOp, ho, e, this]
  rw [hrun]
  exact Post.same En (.d (.v _))
theorem noT {l : List UInt8} {s n : Nat} (h : s + n ≤ l.length) (hn : l.length ≤ 65536) (q : decide ((n : Int) > IntKind.i64.wrap (((l.map bR).length : Int) - (s : Int))) = true) : False := by
  have q := of_decide_eq_true q
  rw [List.length_map, wi (by omega) (by omega)] at q
  omega
theorem text_sat (l : List UInt8) (most : Int) (n s : Nat) (hm : in64 most) (hn : l.length ≤ 65536) (hc : cnt l most = (n, s, 0)) (hs : s + n ≤ l.length) : Sat Try.prog 66 [.ptr 0 0, iA most] [rdO l 0] (.d (strD ⟨((l.take (s + n)).drop s).toArray⟩)) [rdO (l.drop (s + n)) 0] := by
  have f1 := count_sat l most hm hn
  rw [hc] at f1
  have t1 := take_sat l (s + n) hs hn
  have e1 : IntKind.i64.wrap ((s : Int) + (n : Int)) = ((s + n : Nat) : Int) := by rw [wi (by omega) (by omega)]; rfl
  have hm2 : (l.map bR).length = l.length := List.length_map _
  refine sat_of_vc (T := tiOf Try.prog) (E := E0) Try.func66 rfl rfl hE0 hm0 rfl ?_
  conv => whnf
  iterate 3
    repeat (any_goals (first
      | exact True.intro
      | (rw [e1]; conv => whnf)
      | (refine And.intro (fun _ => ?_) tf; conv => whnf)
      | (refine And.intro ft (fun _ => ?_); conv => whnf)
      | (refine And.intro (by kernel_rfl) ?_; conv => whnf)
      | (refine And.intro (by decide) ?_; conv => whnf)
      | (refine And.intro (fun _ => ?_) (fun h => absurd h (by decide)); conv => whnf)
      | (refine And.intro (fun h => absurd h (by decide)) (fun _ => ?_); conv => whnf)
      | (refine And.intro (fun _ => ?_) (fun _ => ?_) <;> conv => whnf)
      | (refine ⟨_, _, f1.pu rfl rfl, ?_⟩; conv => whnf)
      | (refine ⟨_, _, t1.at1 0 rfl rfl rfl, ?_⟩; conv => whnf)
      | (refine ⟨_, _, sl_d (lo := s) (hi := s + n) 1 1 (by kernel_rfl) (by omega) (by rw [hm2]; exact hs), ?_⟩; conv => whnf)
      | (refine ⟨_, _, (by rw [← List.map_take, ← List.map_drop]; exact str_d ((l.take (s + n)).drop s)), ?_⟩; conv => whnf)))
    all_goals try (exfalso; simp only [decide_eq_true_eq, decide_eq_false_iff_not, Bool.not_eq_true', Bool.not_eq_false', Bool.not_eq_true, Bool.not_eq_false, beq_iff_eq, bne_iff_ne, beq_eq_false_iff_ne, bne_eq_false_iff_eq, ne_eq, Decidable.not_not] at *; first | omega | contradiction | (simp_all; done) | (simp_all; omega))
    all_goals try (refine Or.inl ?_; conv => whnf)
  all_goals try exact (noT hs hn ‹_›).elim
  all_goals refine ⟨[], ?_⟩
  repeat (any_goals (first | exact True.intro | exact rfl | with_reducible_and_instances rfl | exact (by kernel_rfl) | refine And.intro ?_ ?_))
  all_goals conv => whnf
theorem newR_sat (l : List UInt8) (hn : l.length ≤ 65536) (h0 : 0 < l.length) : Sat Try.prog 63 [.d (bsD l)] [] (.ptr 1 0) [.dead, rdO l 0] := by
  have c1 := bclone_sat l hn h0
  refine sat_of_vc (T := tiOf Try.prog) (E := E0) Try.func63 rfl rfl hE0 hm0 rfl ?_
  conv => whnf
  iterate 3
    repeat (any_goals (first
      | exact True.intro
      | (refine And.intro (fun _ => ?_) tf; conv => whnf)
      | (refine And.intro ft (fun _ => ?_); conv => whnf)
      | (refine And.intro (by kernel_rfl) ?_; conv => whnf)
      | (refine And.intro (by decide) ?_; conv => whnf)
      | (refine And.intro (fun _ => ?_) (fun h => absurd h (by decide)); conv => whnf)
      | (refine And.intro (fun h => absurd h (by decide)) (fun _ => ?_); conv => whnf)
      | (refine And.intro (fun _ => ?_) (fun _ => ?_) <;> conv => whnf)
      | (refine ⟨_, _, c1.nw rfl, ?_⟩; conv => whnf)))
    all_goals try (refine Or.inl ?_; conv => whnf)
  all_goals refine ⟨[], ?_⟩
  repeat (any_goals (first | exact True.intro | exact rfl | with_reducible_and_instances rfl | exact (by kernel_rfl) | refine And.intro ?_ ?_))
  all_goals conv => whnf
end Go.Proofs.Ytbjmdnemeidpjaa
/- Strings and bytes: conversions as operations; wide.Bytes, wide.Back. -/
namespace Go.Proofs.Ytbjmdnemeidpjaa
set_option linter.unusedSimpArgs false
set_option linter.unusedVariables false
open Go.RowKit
set_option maxRecDepth 100000
/-- The string of bytes of the call's own. -/
theorem str_o {L : List AObj} {ty n i : Nat} {x : Operand} (l : List UInt8) (hi : L[i]? = some (.sl 1 (l.map bR))) : Does Try.prog (.convert 67 9 x) ty L n [.own i] ⟨[i], [], []⟩ (.d (strD ⟨l.toArray⟩)) := by
  intro o H F ρ w ev ho ht En hrs hn hx
  have hops : (Op.operands (.convert 67 9 x)).toList = [x] := by simp [Op.operands]
  rw [hops] at hx
  obtain ⟨v, e, hv⟩ := hx.one_out
  have hi0 : H i = some (.sl 1 (l.map bR)) := by rw [hrs i (by simp)]; exact hi
  cases hv with | own hv =>
    rename_i A m c
    obtain ⟨hh, e1, ⟨vs, how, hra, hs1⟩, e3⟩ := En.rep i _ hi0 rfl
    rw [hv] at e1; injection e1 with e1; subst e1
    obtain ⟨A', c', he, g1, g2, hrd⟩ := how.form
    injection he with q1 q2 q3
    subst q1 q2 q3
    have := (bR_flats l).eq hra
    subst this
    have := string_any w A _ c l hrd
    simp at e
    have hrun : (execOp ev o).run Try.prog w = .ok (.value (.string ⟨l.toArray⟩)) w := by
      simp [execOp, ho, e]
      rw [List.length_map] at this
      simp [this]
    rw [hrun]
    exact Post.same En (.d (.v _))
/-- The bytes of a string: a new slice of the call's own. -/
theorem bytes_s {L : List AObj} {ty n : Nat} {x : Operand} (l : List UInt8) (hl : l.length ≤ 65536) : Does Try.prog (.convert 9 67 x) ty L n [.d (strD ⟨l.toArray⟩)] ⟨[], [], [.sl 1 (l.map bR)]⟩ (.own n) := by
  intro o H F ρ w ev ho ht En hrs hn hx
  have hops : (Op.operands (.convert 9 67 x)).toList = [x] := by simp [Op.operands]
  rw [hops] at hx
  obtain ⟨v, e, hv⟩ := hx.one_out
  have := hv.v_out
  subst this
  simp at e
  have hn0 : H n = none := by simpa using hn 0 (by simp)
  have hconv := run_bytes_of_string (P := Try.prog) w 9 67 5 ⟨l.toArray⟩ Try.underlying9 Try.underlying67 Try.underlying5
  have hsz : (⟨l.toArray⟩ : ByteArray).size = l.length := by simp [ByteArray.size]
  have hge := grownCap_ge w (⟨l.toArray⟩ : ByteArray).size 0 5
  have hle := grownCap_le_maxLen w (⟨l.toArray⟩ : ByteArray).size 0 5 (by rw [hsz]; unfold maxLen; omega)
  generalize grownCap w (⟨l.toArray⟩ : ByteArray).size 0 5 = cap at hconv hge hle
  rw [hsz] at hconv hge
  have hrow : (bytesRow ⟨l.toArray⟩ cap).size = cap := by unfold bytesRow; simp [ByteArray.size]; omega
  rw [hrow] at hconv
  generalize hw : (w.drew.alloc (.cells (bytesRow ⟨l.toArray⟩ cap) 5 (cap, cap + 1))) = w' at hconv
  have hheap : w'.heap = w.heap.push (.cells (bytesRow ⟨l.toArray⟩ cap) 5 (cap, cap + 1)) := by rw [← hw]; rfl
  have hat : w'.heap[w.heap.size]? = some (.cells (bytesRow ⟨l.toArray⟩ cap) 5 (cap, cap + 1)) := by rw [hheap, Array.getElem?_push_size]
  have hsw : w'.heap.size = w.heap.size + 1 := by rw [hheap, Array.size_push]
  have hos : w'.os = w.os ∧ w'.tape = w.tape ∧ w'.output = w.output := by rw [← hw]; exact ⟨rfl, rfl, rfl⟩
  have hcell : ∀ j, w'.cell? ⟨w.heap.size, 0 + j, none⟩ = (bytesRow ⟨l.toArray⟩ cap)[j]? := fun j => by
    rw [← hw, Nat.zero_add]
    exact World.cell?_alloc_mark ..
  have hfr : ∀ j, j < cap → w'.frozen? ⟨w.heap.size, 0 + j, none⟩ = false := fun j hj => by
    unfold World.frozen?
    simp only [hat]
    rw [decide_eq_false (by omega)]
    rfl
  have hrun : (execOp ev o).run Try.prog w = .ok (.value (.slice (some ⟨w.heap.size, 0, none⟩) l.length cap)) w' := by
    simp [execOp, ho, e, hconv]
  rw [hrun]
  have how : Ow w' 0 0 1 (.slice (some ⟨w.heap.size, 0, none⟩) l.length cap) l.length (l.map bv) := by
    refine ⟨by simp, .inr (.inr ⟨w.heap.size, 0, cap, rfl, Nat.zero_le _, ?_, hge, hle, fun j hj => ⟨?_, ?_⟩, fun j hj => ?_⟩)⟩
    · rw [hsw]; exact Nat.lt_succ_self _
    · rw [hcell, Array.getElem?_eq_getElem (by rw [hrow]; omega)]; rfl
    · exact hfr j (by omega)
    · have hj : j < l.length := by simpa using hj
      rw [hcell, bytesRow_at _ _ _ (by simpa [ByteArray.size] using hj)]
      simp [bv]
  have hG : w.grownBy w' none := by
    exact ⟨hos.1, hos.2.1, hos.2.2, by rw [hsw]; exact Nat.le_succ _, fun b hb _ => by rw [hheap, Array.getElem?_push_lt hb, Array.getElem?_eq_getElem hb]⟩
  obtain ⟨S, K, E⟩ := En.new (n := n) (o' := .sl 1 (l.map bR)) (h := .slice (some ⟨w.heap.size, 0, none⟩) l.length cap) hn0 hG (fun b hb => by
    injection hb with hb
    subst hb
    refine ⟨Nat.le_refl _, ?_⟩
    rw [hsw]; exact Nat.lt_succ_self _) ⟨l.map bv, by rw [List.length_map]; exact how, (bR_flats l).rds, one_len⟩
  have e' : updF H n (some (.sl 1 (l.map bR))) = appN n [.sl 1 (l.map bR)] (appW [] H) := rfl
  rw [e'] at S E
  exact ⟨F, _, S, K, E, .own (updF_same _ _ _)⟩
end Go.Proofs.Ytbjmdnemeidpjaa
/- wide.Bytes, wide.Back at 13. -/
namespace Go.Proofs.Ytbjmdnemeidpjaa
set_option linter.unusedSimpArgs false
set_option linter.unusedVariables false
open Go.RowKit
set_option maxRecDepth 100000
abbrev b13 : List UInt8 := [0, 0, 0, 0, 0, 0, 0, 0, 0, 0, 0, 0, 0, 0, 0, 13]
abbrev b00 : List UInt8 := [0, 0, 0, 0, 0, 0, 0, 0, 0, 0, 0, 0, 0, 0, 0, 0]
set_option maxHeartbeats 4000000 in
theorem wbytes13 : Sat Try.prog 73 [.d (.agg [iD 0, uZ 13])] [] (.own 1) [.dead, .sl 1 (b13.map bR)] := by
  refine sat_of_vc (T := tiOf Try.prog) (E := E0) Try.func73 rfl rfl hE0 hm0 rfl ?_
  conv => whnf
  iterate 2
    repeat (any_goals (first
      | exact True.intro
      | (refine And.intro (fun _ => ?_) tf; conv => whnf)
      | (refine And.intro ft (fun _ => ?_); conv => whnf)
      | (refine And.intro (by kernel_rfl) ?_; conv => whnf)
      | (refine And.intro (by decide) ?_; conv => whnf)
      | (refine And.intro (fun _ => ?_) (fun h => absurd h (by decide)); conv => whnf)
      | (refine And.intro (fun h => absurd h (by decide)) (fun _ => ?_); conv => whnf)
      | (refine And.intro (fun _ => ?_) (fun _ => ?_) <;> conv => whnf)
      | (refine ⟨_, _, mkf (c := 16) 1 1 (by kernel_rfl) (by omega) (by unfold maxLen; omega), ?_⟩; conv => whnf)))
    all_goals try (refine Or.inl ?_; conv => whnf)
  refine ⟨Nat × List UInt8, fun y => (y.1 = 0 ∧ y.2 = b00) ∨ (0 < y.1 ∧ y.1 ≤ 8 ∧ y.2 = b13), fun y => ([(6, iA y.1), (3, .own 1), (1, .ptr 0 0)], [.cells [iA 0, uN 13], .sl 1 (y.2.map bR)]), fun y => 8 - y.1, ⟨(0, b00), .inl ⟨rfl, rfl⟩, ?_⟩, ?_⟩
  · all_goals refine ⟨[], ?_⟩
    repeat (any_goals (first | exact True.intro | exact rfl | with_reducible_and_instances rfl | exact (by kernel_rfl) | refine And.intro ?_ ?_))
    all_goals conv => whnf
  rintro ⟨k, l⟩ h
  have hk : k = 0 ∨ k = 1 ∨ k = 2 ∨ k = 3 ∨ k = 4 ∨ k = 5 ∨ k = 6 ∨ k = 7 ∨ k = 8 := by
    rcases h with ⟨h, _⟩ | ⟨h, h', _⟩
    · exact .inl h
    · have h : 0 < k := h
      have h' : k ≤ 8 := h'
      omega
  have hl : l = if k = 0 then b00 else b13 := by
    rcases h with ⟨h, e⟩ | ⟨h, h', e⟩
    · have h : k = 0 := h
      rw [if_pos h]; exact e
    · have h : 0 < k := h
      rw [if_neg (by omega)]; exact e
  clear h
  conv => whnf
  rcases hk with rfl | rfl | rfl | rfl | rfl | rfl | rfl | rfl | rfl
  · have hl : l = b00 := hl
    subst hl
    iterate 4
      repeat (any_goals (first
        | exact True.intro
        | (refine ⟨_, _, rfl, rfl, ?_⟩; conv => whnf)
        | (refine And.intro (show (0:Int) ≤ _ from by decide) ?_; conv => whnf)
        | (refine ⟨7, show _ = ((7 : Nat) : Int) from by decide, show 7 < List.length _ from by decide, ?_⟩; conv => whnf)
        | (refine ⟨15, show _ = ((15 : Nat) : Int) from by decide, show 15 < List.length _ from by decide, ?_⟩; conv => whnf)
        | (refine And.intro (fun _ => ?_) tf; conv => whnf)
        | (refine And.intro ft (fun _ => ?_); conv => whnf)
        | (refine And.intro (by kernel_rfl) ?_; conv => whnf)
        | (refine And.intro (by decide) ?_; conv => whnf)
        | (refine And.intro (fun _ => ?_) (fun h => absurd h (by decide)); conv => whnf)
        | (refine And.intro (fun h => absurd h (by decide)) (fun _ => ?_); conv => whnf)
        | (refine And.intro (fun _ => ?_) (fun _ => ?_) <;> conv => whnf)))
      all_goals try (refine Or.inl ?_; conv => whnf)
    refine ⟨(1, b13), .inr ⟨by show 0 < 1; omega, by show 1 ≤ 8; omega, rfl⟩, show 8 - 1 < 8 - 0 by omega, ?_⟩
    all_goals refine ⟨[], ?_⟩
    repeat (any_goals (first | exact True.intro | exact rfl | with_reducible_and_instances rfl | exact (by kernel_rfl) | refine And.intro ?_ ?_))
    all_goals conv => whnf
  · have hl : l = b13 := hl
    subst hl
    iterate 4
      repeat (any_goals (first
        | exact True.intro
        | (refine ⟨_, _, rfl, rfl, ?_⟩; conv => whnf)
        | (refine And.intro (show (0:Int) ≤ _ from by decide) ?_; conv => whnf)
        | (refine ⟨6, show _ = ((6 : Nat) : Int) from by decide, show 6 < List.length _ from by decide, ?_⟩; conv => whnf)
        | (refine ⟨14, show _ = ((14 : Nat) : Int) from by decide, show 14 < List.length _ from by decide, ?_⟩; conv => whnf)
        | (refine And.intro (fun _ => ?_) tf; conv => whnf)
        | (refine And.intro ft (fun _ => ?_); conv => whnf)
        | (refine And.intro (by kernel_rfl) ?_; conv => whnf)
        | (refine And.intro (by decide) ?_; conv => whnf)
        | (refine And.intro (fun _ => ?_) (fun h => absurd h (by decide)); conv => whnf)
        | (refine And.intro (fun h => absurd h (by decide)) (fun _ => ?_); conv => whnf)
        | (refine And.intro (fun _ => ?_) (fun _ => ?_) <;> conv => whnf)))
      all_goals try (refine Or.inl ?_; conv => whnf)
    refine ⟨(2, b13), .inr ⟨by show 0 < 2; omega, by show 2 ≤ 8; omega, rfl⟩, show 8 - 2 < 8 - 1 by omega, ?_⟩
    all_goals refine ⟨[], ?_⟩
    repeat (any_goals (first | exact True.intro | exact rfl | with_reducible_and_instances rfl | exact (by kernel_rfl) | refine And.intro ?_ ?_))
    all_goals conv => whnf
  · have hl : l = b13 := hl
    subst hl
    iterate 4
      repeat (any_goals (first
        | exact True.intro
        | (refine ⟨_, _, rfl, rfl, ?_⟩; conv => whnf)
        | (refine And.intro (show (0:Int) ≤ _ from by decide) ?_; conv => whnf)
        | (refine ⟨5, show _ = ((5 : Nat) : Int) from by decide, show 5 < List.length _ from by decide, ?_⟩; conv => whnf)
        | (refine ⟨13, show _ = ((13 : Nat) : Int) from by decide, show 13 < List.length _ from by decide, ?_⟩; conv => whnf)
        | (refine And.intro (fun _ => ?_) tf; conv => whnf)
        | (refine And.intro ft (fun _ => ?_); conv => whnf)
        | (refine And.intro (by kernel_rfl) ?_; conv => whnf)
        | (refine And.intro (by decide) ?_; conv => whnf)
        | (refine And.intro (fun _ => ?_) (fun h => absurd h (by decide)); conv => whnf)
        | (refine And.intro (fun h => absurd h (by decide)) (fun _ => ?_); conv => whnf)
        | (refine And.intro (fun _ => ?_) (fun _ => ?_) <;> conv => whnf)))
      all_goals try (refine Or.inl ?_; conv => whnf)
    refine ⟨(3, b13), .inr ⟨by show 0 < 3; omega, by show 3 ≤ 8; omega, rfl⟩, show 8 - 3 < 8 - 2 by omega, ?_⟩
    all_goals refine ⟨[], ?_⟩
    repeat (any_goals (first | exact True.intro | exact rfl | with_reducible_and_instances rfl | exact (by kernel_rfl) | refine And.intro ?_ ?_))
    all_goals conv => whnf
  · have hl : l = b13 := hl
    subst hl
    iterate 4
      repeat (any_goals (first
        | exact True.intro
        | (refine ⟨_, _, rfl, rfl, ?_⟩; conv => whnf)
        | (refine And.intro (show (0:Int) ≤ _ from by decide) ?_; conv => whnf)
        | (refine ⟨4, show _ = ((4 : Nat) : Int) from by decide, show 4 < List.length _ from by decide, ?_⟩; conv => whnf)
        | (refine ⟨12, show _ = ((12 : Nat) : Int) from by decide, show 12 < List.length _ from by decide, ?_⟩; conv => whnf)
        | (refine And.intro (fun _ => ?_) tf; conv => whnf)
        | (refine And.intro ft (fun _ => ?_); conv => whnf)
        | (refine And.intro (by kernel_rfl) ?_; conv => whnf)
        | (refine And.intro (by decide) ?_; conv => whnf)
        | (refine And.intro (fun _ => ?_) (fun h => absurd h (by decide)); conv => whnf)
        | (refine And.intro (fun h => absurd h (by decide)) (fun _ => ?_); conv => whnf)
        | (refine And.intro (fun _ => ?_) (fun _ => ?_) <;> conv => whnf)))
      all_goals try (refine Or.inl ?_; conv => whnf)
    refine ⟨(4, b13), .inr ⟨by show 0 < 4; omega, by show 4 ≤ 8; omega, rfl⟩, show 8 - 4 < 8 - 3 by omega, ?_⟩
    all_goals refine ⟨[], ?_⟩
    repeat (any_goals (first | exact True.intro | exact rfl | with_reducible_and_instances rfl | exact (by kernel_rfl) | refine And.intro ?_ ?_))
    all_goals conv => whnf
  · have hl : l = b13 := hl
    subst hl
    iterate 4
      repeat (any_goals (first
        | exact True.intro
        | (refine ⟨_, _, rfl, rfl, ?_⟩; conv => whnf)
        | (refine And.intro (show (0:Int) ≤ _ from by decide) ?_; conv => whnf)
        | (refine ⟨3, show _ = ((3 : Nat) : Int) from by decide, show 3 < List.length _ from by decide, ?_⟩; conv => whnf)
        | (refine ⟨11, show _ = ((11 : Nat) : Int) from by decide, show 11 < List.length _ from by decide, ?_⟩; conv => whnf)
        | (refine And.intro (fun _ => ?_) tf; conv => whnf)
        | (refine And.intro ft (fun _ => ?_); conv => whnf)
        | (refine And.intro (by kernel_rfl) ?_; conv => whnf)
        | (refine And.intro (by decide) ?_; conv => whnf)
        | (refine And.intro (fun _ => ?_) (fun h => absurd h (by decide)); conv => whnf)
        | (refine And.intro (fun h => absurd h (by decide)) (fun _ => ?_); conv => whnf)
        | (refine And.intro (fun _ => ?_) (fun _ => ?_) <;> conv => whnf)))
      all_goals try (refine Or.inl ?_; conv => whnf)
    refine ⟨(5, b13), .inr ⟨by show 0 < 5; omega, by show 5 ≤ 8; omega, rfl⟩, show 8 - 5 < 8 - 4 by omega, ?_⟩
    all_goals refine ⟨[], ?_⟩
    repeat (any_goals (first | exact True.intro | exact rfl | with_reducible_and_instances rfl | exact (by kernel_rfl) | refine And.intro ?_ ?_))
    all_goals conv => whnf
  · have hl : l = b13 := hl
    subst hl
    iterate 4
      repeat (any_goals (first
        | exact True.intro
        | (refine ⟨_, _, rfl, rfl, ?_⟩; conv => whnf)
        | (refine And.intro (show (0:Int) ≤ _ from by decide) ?_; conv => whnf)
        | (refine ⟨2, show _ = ((2 : Nat) : Int) from by decide, show 2 < List.length _ from by decide, ?_⟩; conv => whnf)
        | (refine ⟨10, show _ = ((10 : Nat) : Int) from by decide, show 10 < List.length _ from by decide, ?_⟩; conv => whnf)
        | (refine And.intro (fun _ => ?_) tf; conv => whnf)
        | (refine And.intro ft (fun _ => ?_); conv => whnf)
        | (refine And.intro (by kernel_rfl) ?_; conv => whnf)
        | (refine And.intro (by decide) ?_; conv => whnf)
        | (refine And.intro (fun _ => ?_) (fun h => absurd h (by decide)); conv => whnf)
        | (refine And.intro (fun h => absurd h (by decide)) (fun _ => ?_); conv => whnf)
        | (refine And.intro (fun _ => ?_) (fun _ => ?_) <;> conv => whnf)))
      all_goals try (refine Or.inl ?_; conv => whnf)
    refine ⟨(6, b13), .inr ⟨by show 0 < 6; omega, by show 6 ≤ 8; omega, rfl⟩, show 8 - 6 < 8 - 5 by omega, ?_⟩
    all_goals refine ⟨[], ?_⟩
    repeat (any_goals (first | exact True.intro | exact rfl | with_reducible_and_instances rfl | exact (by kernel_rfl) | refine And.intro ?_ ?_))
    all_goals conv => whnf
  · have hl : l = b13 := hl
    subst hl
    iterate 4
      repeat (any_goals (first
        | exact True.intro
        | (refine ⟨_, _, rfl, rfl, ?_⟩; conv => whnf)
        | (refine And.intro (show (0:Int) ≤ _ from by decide) ?_; conv => whnf)
        | (refine ⟨1, show _ = ((1 : Nat) : Int) from by decide, show 1 < List.length _ from by decide, ?_⟩; conv => whnf)
        | (refine ⟨9, show _ = ((9 : Nat) : Int) from by decide, show 9 < List.length _ from by decide, ?_⟩; conv => whnf)
        | (refine And.intro (fun _ => ?_) tf; conv => whnf)
        | (refine And.intro ft (fun _ => ?_); conv => whnf)
        | (refine And.intro (by kernel_rfl) ?_; conv => whnf)
        | (refine And.intro (by decide) ?_; conv => whnf)
        | (refine And.intro (fun _ => ?_) (fun h => absurd h (by decide)); conv => whnf)
        | (refine And.intro (fun h => absurd h (by decide)) (fun _ => ?_); conv => whnf)
        | (refine And.intro (fun _ => ?_) (fun _ => ?_) <;> conv => whnf)))
      all_goals try (refine Or.inl ?_; conv => whnf)
    refine ⟨(7, b13), .inr ⟨by show 0 < 7; omega, by show 7 ≤ 8; omega, rfl⟩, show 8 - 7 < 8 - 6 by omega, ?_⟩
    all_goals refine ⟨[], ?_⟩
    repeat (any_goals (first | exact True.intro | exact rfl | with_reducible_and_instances rfl | exact (by kernel_rfl) | refine And.intro ?_ ?_))
    all_goals conv => whnf
  · have hl : l = b13 := hl
    subst hl
    iterate 4
      repeat (any_goals (first
        | exact True.intro
        | (refine ⟨_, _, rfl, rfl, ?_⟩; conv => whnf)
        | (refine And.intro (show (0:Int) ≤ _ from by decide) ?_; conv => whnf)
        | (refine ⟨0, show _ = ((0 : Nat) : Int) from by decide, show 0 < List.length _ from by decide, ?_⟩; conv => whnf)
        | (refine ⟨8, show _ = ((8 : Nat) : Int) from by decide, show 8 < List.length _ from by decide, ?_⟩; conv => whnf)
        | (refine And.intro (fun _ => ?_) tf; conv => whnf)
        | (refine And.intro ft (fun _ => ?_); conv => whnf)
        | (refine And.intro (by kernel_rfl) ?_; conv => whnf)
        | (refine And.intro (by decide) ?_; conv => whnf)
        | (refine And.intro (fun _ => ?_) (fun h => absurd h (by decide)); conv => whnf)
        | (refine And.intro (fun h => absurd h (by decide)) (fun _ => ?_); conv => whnf)
        | (refine And.intro (fun _ => ?_) (fun _ => ?_) <;> conv => whnf)))
      all_goals try (refine Or.inl ?_; conv => whnf)
    refine ⟨(8, b13), .inr ⟨by show 0 < 8; omega, by show 8 ≤ 8; omega, rfl⟩, show 8 - 8 < 8 - 7 by omega, ?_⟩
    all_goals refine ⟨[], ?_⟩
    repeat (any_goals (first | exact True.intro | exact rfl | with_reducible_and_instances rfl | exact (by kernel_rfl) | refine And.intro ?_ ?_))
    all_goals conv => whnf
  · have hl : l = b13 := hl
    subst hl
    iterate 4
      repeat (any_goals (first
        | exact True.intro
        | (refine And.intro (fun _ => ?_) tf; conv => whnf)
        | (refine And.intro ft (fun _ => ?_); conv => whnf)
        | (refine And.intro (by kernel_rfl) ?_; conv => whnf)
        | (refine And.intro (by decide) ?_; conv => whnf)
        | (refine And.intro (fun _ => ?_) (fun h => absurd h (by decide)); conv => whnf)
        | (refine And.intro (fun h => absurd h (by decide)) (fun _ => ?_); conv => whnf)
        | (refine And.intro (fun _ => ?_) (fun _ => ?_) <;> conv => whnf)))
      all_goals try (refine Or.inl ?_; conv => whnf)
    all_goals refine ⟨[], ?_⟩
    repeat (any_goals (first | exact True.intro | exact rfl | with_reducible_and_instances rfl | exact (by kernel_rfl) | refine And.intro ?_ ?_))
    all_goals conv => whnf
end Go.Proofs.Ytbjmdnemeidpjaa
/- wide.Back at 13. -/
namespace Go.Proofs.Ytbjmdnemeidpjaa
set_option linter.unusedSimpArgs false
set_option linter.unusedVariables false
open Go.RowKit
set_option maxRecDepth 100000
set_option maxHeartbeats 4000000 in
theorem wback13 : Sat Try.prog 69 [.d (bsD b13)] [] (.tup [.d (wD 13), bA true]) [] := by
  refine sat_of_vc (T := tiOf Try.prog) (E := E0) Try.func69 rfl rfl hE0 hm0 rfl ?_
  conv => whnf
  iterate 3
    repeat (any_goals (first
      | exact True.intro
      | (refine And.intro (fun _ => ?_) tf; conv => whnf)
      | (refine And.intro ft (fun _ => ?_); conv => whnf)
      | (refine And.intro (by kernel_rfl) ?_; conv => whnf)
      | (refine And.intro (by decide) ?_; conv => whnf)
      | (refine And.intro (fun _ => ?_) (fun h => absurd h (by decide)); conv => whnf)
      | (refine And.intro (fun h => absurd h (by decide)) (fun _ => ?_); conv => whnf)
      | (refine And.intro (fun _ => ?_) (fun _ => ?_) <;> conv => whnf)))
    all_goals try (exfalso; simp only [decide_eq_true_eq, decide_eq_false_iff_not, Bool.not_eq_true', Bool.not_eq_false', Bool.not_eq_true, Bool.not_eq_false, beq_iff_eq, bne_iff_ne, beq_eq_false_iff_ne, bne_eq_false_iff_eq, ne_eq, Decidable.not_not] at *; first | omega | contradiction | (simp_all; done) | (simp_all; omega))
    all_goals try (refine Or.inl ?_; conv => whnf)
  refine ⟨Nat × Int, fun y => y.1 ≤ 8 ∧ y.2 = if y.1 = 8 then 13 else 0, fun y => ([(11, iA y.1), (5, uN y.2), (4, uN 0), (2, .ptr 0 0), (0, .d (bsD b13))], [.cells [iA 0, uN 0]]), fun y => 8 - y.1, ⟨(0, 0), ⟨by decide, rfl⟩, ?_⟩, ?_⟩
  · all_goals refine ⟨[], ?_⟩
    repeat (any_goals (first | exact True.intro | exact rfl | with_reducible_and_instances rfl | exact (by kernel_rfl) | refine And.intro ?_ ?_))
    all_goals conv => whnf
  rintro ⟨k, z⟩ ⟨hk, hz⟩
  have hk : k ≤ 8 := hk
  have hz : z = if k = 8 then 13 else 0 := hz
  conv => whnf
  have hk : k = 0 ∨ k = 1 ∨ k = 2 ∨ k = 3 ∨ k = 4 ∨ k = 5 ∨ k = 6 ∨ k = 7 ∨ k = 8 := by omega
  rcases hk with rfl | rfl | rfl | rfl | rfl | rfl | rfl | rfl | rfl
  · have hz : z = 0 := hz
    subst hz
    iterate 4
      repeat (any_goals (first
        | exact True.intro
        | (refine ⟨0, _, rfl, rfl, ?_⟩; conv => whnf)
        | (refine ⟨8, _, show _ = ((8 : Nat) : Int) from by decide, rfl, ?_⟩; conv => whnf)
        | (refine And.intro (fun _ => ?_) tf; conv => whnf)
        | (refine And.intro ft (fun _ => ?_); conv => whnf)
        | (refine And.intro (by kernel_rfl) ?_; conv => whnf)
        | (refine And.intro (by decide) ?_; conv => whnf)
        | (refine And.intro (fun _ => ?_) (fun h => absurd h (by decide)); conv => whnf)
        | (refine And.intro (fun h => absurd h (by decide)) (fun _ => ?_); conv => whnf)
        | (refine And.intro (fun _ => ?_) (fun _ => ?_) <;> conv => whnf)))
      all_goals try (refine Or.inl ?_; conv => whnf)
    refine ⟨(1, 0), ⟨by show 1 ≤ 8; omega, rfl⟩, show 8 - 1 < 8 - 0 by omega, ?_⟩
    all_goals refine ⟨[], ?_⟩
    repeat (any_goals (first | exact True.intro | exact rfl | with_reducible_and_instances rfl | exact (by kernel_rfl) | refine And.intro ?_ ?_))
    all_goals conv => whnf
  · have hz : z = 0 := hz
    subst hz
    iterate 4
      repeat (any_goals (first
        | exact True.intro
        | (refine ⟨1, _, rfl, rfl, ?_⟩; conv => whnf)
        | (refine ⟨9, _, show _ = ((9 : Nat) : Int) from by decide, rfl, ?_⟩; conv => whnf)
        | (refine And.intro (fun _ => ?_) tf; conv => whnf)
        | (refine And.intro ft (fun _ => ?_); conv => whnf)
        | (refine And.intro (by kernel_rfl) ?_; conv => whnf)
        | (refine And.intro (by decide) ?_; conv => whnf)
        | (refine And.intro (fun _ => ?_) (fun h => absurd h (by decide)); conv => whnf)
        | (refine And.intro (fun h => absurd h (by decide)) (fun _ => ?_); conv => whnf)
        | (refine And.intro (fun _ => ?_) (fun _ => ?_) <;> conv => whnf)))
      all_goals try (refine Or.inl ?_; conv => whnf)
    refine ⟨(2, 0), ⟨by show 2 ≤ 8; omega, rfl⟩, show 8 - 2 < 8 - 1 by omega, ?_⟩
    all_goals refine ⟨[], ?_⟩
    repeat (any_goals (first | exact True.intro | exact rfl | with_reducible_and_instances rfl | exact (by kernel_rfl) | refine And.intro ?_ ?_))
    all_goals conv => whnf
  · have hz : z = 0 := hz
    subst hz
    iterate 4
      repeat (any_goals (first
        | exact True.intro
        | (refine ⟨2, _, rfl, rfl, ?_⟩; conv => whnf)
        | (refine ⟨10, _, show _ = ((10 : Nat) : Int) from by decide, rfl, ?_⟩; conv => whnf)
        | (refine And.intro (fun _ => ?_) tf; conv => whnf)
        | (refine And.intro ft (fun _ => ?_); conv => whnf)
        | (refine And.intro (by kernel_rfl) ?_; conv => whnf)
        | (refine And.intro (by decide) ?_; conv => whnf)
        | (refine And.intro (fun _ => ?_) (fun h => absurd h (by decide)); conv => whnf)
        | (refine And.intro (fun h => absurd h (by decide)) (fun _ => ?_); conv => whnf)
        | (refine And.intro (fun _ => ?_) (fun _ => ?_) <;> conv => whnf)))
      all_goals try (refine Or.inl ?_; conv => whnf)
    refine ⟨(3, 0), ⟨by show 3 ≤ 8; omega, rfl⟩, show 8 - 3 < 8 - 2 by omega, ?_⟩
    all_goals refine ⟨[], ?_⟩
    repeat (any_goals (first | exact True.intro | exact rfl | with_reducible_and_instances rfl | exact (by kernel_rfl) | refine And.intro ?_ ?_))
    all_goals conv => whnf
  · have hz : z = 0 := hz
    subst hz
    iterate 4
      repeat (any_goals (first
        | exact True.intro
        | (refine ⟨3, _, rfl, rfl, ?_⟩; conv => whnf)
        | (refine ⟨11, _, show _ = ((11 : Nat) : Int) from by decide, rfl, ?_⟩; conv => whnf)
        | (refine And.intro (fun _ => ?_) tf; conv => whnf)
        | (refine And.intro ft (fun _ => ?_); conv => whnf)
        | (refine And.intro (by kernel_rfl) ?_; conv => whnf)
        | (refine And.intro (by decide) ?_; conv => whnf)
        | (refine And.intro (fun _ => ?_) (fun h => absurd h (by decide)); conv => whnf)
        | (refine And.intro (fun h => absurd h (by decide)) (fun _ => ?_); conv => whnf)
        | (refine And.intro (fun _ => ?_) (fun _ => ?_) <;> conv => whnf)))
      all_goals try (refine Or.inl ?_; conv => whnf)
    refine ⟨(4, 0), ⟨by show 4 ≤ 8; omega, rfl⟩, show 8 - 4 < 8 - 3 by omega, ?_⟩
    all_goals refine ⟨[], ?_⟩
    repeat (any_goals (first | exact True.intro | exact rfl | with_reducible_and_instances rfl | exact (by kernel_rfl) | refine And.intro ?_ ?_))
    all_goals conv => whnf
  · have hz : z = 0 := hz
    subst hz
    iterate 4
      repeat (any_goals (first
        | exact True.intro
        | (refine ⟨4, _, rfl, rfl, ?_⟩; conv => whnf)
        | (refine ⟨12, _, show _ = ((12 : Nat) : Int) from by decide, rfl, ?_⟩; conv => whnf)
        | (refine And.intro (fun _ => ?_) tf; conv => whnf)
        | (refine And.intro ft (fun _ => ?_); conv => whnf)
        | (refine And.intro (by kernel_rfl) ?_; conv => whnf)
        | (refine And.intro (by decide) ?_; conv => whnf)
        | (refine And.intro (fun _ => ?_) (fun h => absurd h (by decide)); conv => whnf)
        | (refine And.intro (fun h => absurd h (by decide)) (fun _ => ?_); conv => whnf)
        | (refine And.intro (fun _ => ?_) (fun _ => ?_) <;> conv => whnf)))
      all_goals try (refine Or.inl ?_; conv => whnf)
    refine ⟨(5, 0), ⟨by show 5 ≤ 8; omega, rfl⟩, show 8 - 5 < 8 - 4 by omega, ?_⟩
    all_goals refine ⟨[], ?_⟩
    repeat (any_goals (first | exact True.intro | exact rfl | with_reducible_and_instances rfl | exact (by kernel_rfl) | refine And.intro ?_ ?_))
    all_goals conv => whnf
  · have hz : z = 0 := hz
    subst hz
    iterate 4
      repeat (any_goals (first
        | exact True.intro
        | (refine ⟨5, _, rfl, rfl, ?_⟩; conv => whnf)
        | (refine ⟨13, _, show _ = ((13 : Nat) : Int) from by decide, rfl, ?_⟩; conv => whnf)
        | (refine And.intro (fun _ => ?_) tf; conv => whnf)
        | (refine And.intro ft (fun _ => ?_); conv => whnf)
        | (refine And.intro (by kernel_rfl) ?_; conv => whnf)
        | (refine And.intro (by decide) ?_; conv => whnf)
        | (refine And.intro (fun _ => ?_) (fun h => absurd h (by decide)); conv => whnf)
        | (refine And.intro (fun h => absurd h (by decide)) (fun _ => ?_); conv => whnf)
        | (refine And.intro (fun _ => ?_) (fun _ => ?_) <;> conv => whnf)))
      all_goals try (refine Or.inl ?_; conv => whnf)
    refine ⟨(6, 0), ⟨by show 6 ≤ 8; omega, rfl⟩, show 8 - 6 < 8 - 5 by omega, ?_⟩
    all_goals refine ⟨[], ?_⟩
    repeat (any_goals (first | exact True.intro | exact rfl | with_reducible_and_instances rfl | exact (by kernel_rfl) | refine And.intro ?_ ?_))
    all_goals conv => whnf
  · have hz : z = 0 := hz
    subst hz
    iterate 4
      repeat (any_goals (first
        | exact True.intro
        | (refine ⟨6, _, rfl, rfl, ?_⟩; conv => whnf)
        | (refine ⟨14, _, show _ = ((14 : Nat) : Int) from by decide, rfl, ?_⟩; conv => whnf)
        | (refine And.intro (fun _ => ?_) tf; conv => whnf)
        | (refine And.intro ft (fun _ => ?_); conv => whnf)
        | (refine And.intro (by kernel_rfl) ?_; conv => whnf)
        | (refine And.intro (by decide) ?_; conv => whnf)
        | (refine And.intro (fun _ => ?_) (fun h => absurd h (by decide)); conv => whnf)
        | (refine And.intro (fun h => absurd h (by decide)) (fun _ => ?_); conv => whnf)
        | (refine And.intro (fun _ => ?_) (fun _ => ?_) <;> conv => whnf)))
      all_goals try (refine Or.inl ?_; conv => whnf)
    refine ⟨(7, 0), ⟨by show 7 ≤ 8; omega, rfl⟩, show 8 - 7 < 8 - 6 by omega, ?_⟩
    all_goals refine ⟨[], ?_⟩
    repeat (any_goals (first | exact True.intro | exact rfl | with_reducible_and_instances rfl | exact (by kernel_rfl) | refine And.intro ?_ ?_))
    all_goals conv => whnf
  · have hz : z = 0 := hz
    subst hz
    iterate 4
      repeat (any_goals (first
        | exact True.intro
        | (refine ⟨7, _, rfl, rfl, ?_⟩; conv => whnf)
        | (refine ⟨15, _, show _ = ((15 : Nat) : Int) from by decide, rfl, ?_⟩; conv => whnf)
        | (refine And.intro (fun _ => ?_) tf; conv => whnf)
        | (refine And.intro ft (fun _ => ?_); conv => whnf)
        | (refine And.intro (by kernel_rfl) ?_; conv => whnf)
        | (refine And.intro (by decide) ?_; conv => whnf)
        | (refine And.intro (fun _ => ?_) (fun h => absurd h (by decide)); conv => whnf)
        | (refine And.intro (fun h => absurd h (by decide)) (fun _ => ?_); conv => whnf)
        | (refine And.intro (fun _ => ?_) (fun _ => ?_) <;> conv => whnf)))
      all_goals try (refine Or.inl ?_; conv => whnf)
    refine ⟨(8, 13), ⟨by show 8 ≤ 8; omega, rfl⟩, show 8 - 8 < 8 - 7 by omega, ?_⟩
    all_goals refine ⟨[], ?_⟩
    repeat (any_goals (first | exact True.intro | exact rfl | with_reducible_and_instances rfl | exact (by kernel_rfl) | refine And.intro ?_ ?_))
    all_goals conv => whnf
  · have hz : z = 13 := hz
    subst hz
    iterate 4
      repeat (any_goals (first
        | exact True.intro
        | (refine And.intro (fun _ => ?_) tf; conv => whnf)
        | (refine And.intro ft (fun _ => ?_); conv => whnf)
        | (refine And.intro (by kernel_rfl) ?_; conv => whnf)
        | (refine And.intro (by decide) ?_; conv => whnf)
        | (refine And.intro (fun _ => ?_) (fun h => absurd h (by decide)); conv => whnf)
        | (refine And.intro (fun h => absurd h (by decide)) (fun _ => ?_); conv => whnf)
        | (refine And.intro (fun _ => ?_) (fun _ => ?_) <;> conv => whnf)))
      all_goals try (refine Or.inl ?_; conv => whnf)
    all_goals refine ⟨[], ?_⟩
    repeat (any_goals (first | exact True.intro | exact rfl | with_reducible_and_instances rfl | exact (by kernel_rfl) | refine And.intro ?_ ?_))
    all_goals conv => whnf
end Go.Proofs.Ytbjmdnemeidpjaa
