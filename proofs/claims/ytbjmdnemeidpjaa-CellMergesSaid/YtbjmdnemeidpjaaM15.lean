/- Parts CeX, Laid of the proof, put together. -/
import Derived.Test.YtbjmdnemeidpjaaM14
import Derived.Test.YtbjmdnemeidpjaaChecked
import Derived.Test.YtbjmdnemeidpjaaRows
/- CellMerges: every Merge answers what the document says; the order makes no difference. -/
namespace Go.Proofs.Ytbjmdnemeidpjaa
set_option linter.unusedSimpArgs false
set_option linter.unusedVariables false
open Go.RowKit
set_option maxRecDepth 100000
theorem full_perm {l l' : List Cel} (h : l.Perm l') : (full l).Perm (full l') := h.filter _
theorem mergeC_perm {l l' : List Cel} (h : l.Perm l') : mergeC l = mergeC l' := by
  have a1 : l.all rightC = l'.all rightC := by
    rw [Bool.eq_iff_iff, List.all_eq_true, List.all_eq_true]
    exact ⟨fun q x hx => q x (h.mem_iff.2 hx), fun q x hx => q x (h.mem_iff.1 hx)⟩
  have e1 : sumN l = sumN l' := perm_sumI (h.map _)
  have e2 : sumCe l = sumCe l' := perm_sumI (h.map _)
  have e3 : sumPo l = sumPo l' := perm_sumI (h.map _)
  have e4 : sumS l = sumS l' := perm_sumI (h.map _)
  have e5 : mmin ((full l).map (·.mn)) = mmin ((full l').map (·.mn)) := mmin_perm ((full_perm h).map _)
  have e6 : mmax ((full l).map (·.mx)) = mmax ((full l').map (·.mx)) := mmax_perm ((full_perm h).map _)
  have e7 : mergeL (l.map (·.h)) = mergeL (l'.map (·.h)) := by
    unfold mergeL
    refine List.map_congr_left fun j _ => ?_
    unfold sumAt
    exact perm_sumI ((h.map _).map _)
  have e8 : fitsC l = fitsC l' := by unfold fitsC; rw [e1, e2, e3, e4]
  have e9 : joinC l = joinC l' := Cel.ext' e1 e4 e5 e6 e2 e3 e7
  unfold mergeC
  rw [a1, e8, e9]
theorem joinC_ok {l : List Cel} (hl : ∀ c ∈ l, CelOK c) (hR : ∀ c ∈ l, RightC c) (hf : fitsC l = true) : CelOK (joinC l) := by
  have := bj_ok hl hR hf l.length
  rw [List.take_length] at this
  rw [fits_iff] at hf
  simp only [Bool.and_eq_true, decide_eq_true_eq] at hf
  exact ⟨this.n, hf.2, this.mn, this.mx, this.ce, this.po, this.hl, this.hx⟩
theorem mergeC_ok {l : List Cel} (hl : ∀ c ∈ l, CelOK c) : CelOK (mergeC l).1 := by
  unfold mergeC
  by_cases h : l.all rightC = false
  · rw [if_pos h]; exact zC_ok
  · rw [if_neg h]
    by_cases h2 : fitsC l = false
    · rw [if_pos h2]; exact zC_ok
    · rw [if_neg h2]
      exact joinC_ok hl (fun c hc => right_iff.1 (List.all_eq_true.1 (by simpa using h) c hc)) (by simpa using h2)
theorem noA {A : Cel} (q : decide (A = A) = false) : False := by rw [decide_eq_true rfl] at q; exact Bool.noConfusion q
theorem noI {a : Int} (q : (a == a) = false) : False := by simp at q
theorem rot_perm (l : List Cel) (k : Nat) : (l.drop k ++ l.take k).Perm l := by
  have h := List.perm_append_comm (l₁ := l.drop k) (l₂ := l.take k)
  rw [List.take_append_drop] at h
  exact h
set_option maxHeartbeats 64000000 in
theorem merges_sat_c (l : List Cel) (turn : Int) (hl : ∀ c ∈ l, CelOK c) (ht : in64 turn) : Sat Try.prog 4 [.d (.sl 72 (l.map cR)), iA turn] [] (bA true) [] := by
  have hm : (l.map cR).length = l.length := List.length_map _
  by_cases hg : l.length ≤ 30
  case neg =>
    refine sat_of_vc (T := tiOf Try.prog) (E := E0) Try.func4 rfl rfl hE0 hm0 rfl ?_
    conv => whnf
    iterate 3
      repeat (any_goals (first
        | exact True.intro
        | (refine And.intro (fun _ => ?_) tf; conv => whnf)
        | (refine And.intro ft (fun _ => ?_); conv => whnf)
        | (refine And.intro (by kernel_rfl) ?_; conv => whnf)
        | (refine And.intro (by decide) ?_; conv => whnf)
        | (refine And.intro (fun _ => ?_) (fun h => absurd h (by decide)); conv => whnf)
        | (refine And.intro (fun h => absurd h (by decide)) (fun _ => ?_); conv => whnf)
        | (refine And.intro (fun _ => ?_) (fun _ => ?_) <;> conv => whnf)
        | (refine ⟨_, _, alive21.pu rfl rfl, ?_⟩; conv => whnf)))
      all_goals try (exfalso; simp only [decide_eq_true_eq, decide_eq_false_iff_not, Bool.not_eq_true', Bool.not_eq_false', Bool.not_eq_true, Bool.not_eq_false, beq_iff_eq, bne_iff_ne, beq_eq_false_iff_ne, bne_eq_false_iff_eq, ne_eq, Decidable.not_not] at *; first | omega | contradiction | (simp_all; done) | (simp_all; omega))
      all_goals try (refine Or.inl ?_; conv => whnf)
    all_goals refine ⟨[], ?_⟩
    repeat (any_goals (first | exact True.intro | exact rfl | with_reducible_and_instances rfl | exact (by kernel_rfl) | refine And.intro ?_ ?_))
    all_goals conv => whnf
  have m1 := merge_sat_c l hl (by omega)
  have m2 := refMerge_sat_c l hl (by omega)
  have om := mergeC_ok hl
  have lm := om.hl
  have g1 := of_sat_c _ lm
  refine sat_of_vc (T := tiOf Try.prog) (E := E0) Try.func4 rfl rfl hE0 hm0 rfl ?_
  conv => whnf
  iterate 3
    repeat (any_goals (first
      | exact True.intro
      | (refine And.intro (fun _ => ?_) tf; conv => whnf)
      | (refine And.intro ft (fun _ => ?_); conv => whnf)
      | (refine And.intro (by kernel_rfl) ?_; conv => whnf)
      | (refine And.intro (by decide) ?_; conv => whnf)
      | (refine And.intro (fun _ => ?_) (fun h => absurd h (by decide)); conv => whnf)
      | (refine And.intro (fun h => absurd h (by decide)) (fun _ => ?_); conv => whnf)
      | (refine And.intro (fun _ => ?_) (fun _ => ?_) <;> conv => whnf)
      | (refine ⟨_, _, alive21.pu rfl rfl, ?_⟩; conv => whnf)))
    all_goals try (exfalso; simp only [decide_eq_true_eq, decide_eq_false_iff_not, Bool.not_eq_true', Bool.not_eq_false', Bool.not_eq_true, Bool.not_eq_false, beq_iff_eq, bne_iff_ne, beq_eq_false_iff_ne, bne_eq_false_iff_eq, ne_eq, Decidable.not_not] at *; first | omega | contradiction | (simp_all; done) | (simp_all; omega))
    all_goals try (refine Or.inl ?_; conv => whnf)
  refine ⟨Nat, fun k => k ≤ l.length, fun k => ([(6, iA k), (5, .own 0), (0, .d (.sl 72 (l.map cR))), (1, iA turn)], [.sl 72 ((l.take k).map cR)]), fun k => l.length - k, ⟨0, Nat.zero_le _, ?_⟩, ?_⟩
  · all_goals refine ⟨[], ?_⟩
    repeat (any_goals (first | exact True.intro | exact rfl | with_reducible_and_instances rfl | exact (by kernel_rfl) | refine And.intro ?_ ?_))
    all_goals conv => whnf
  intro k hk
  have hk : k ≤ l.length := hk
  have n1 : ((l.take k).map cR).length = k := by simp; omega
  conv => whnf
  by_cases hlt : k < l.length
  · have hx : l[k]? = some l[k] := List.getElem?_eq_getElem hlt
    have hc := hl _ (List.getElem_mem hlt)
    generalize l[k] = c at hx hc
    have hcl := hc.hl
    have g2 := of_sat_c c hcl
    iterate 4
      repeat (any_goals (first
        | exact True.intro
        | (refine ⟨k, _, rfl, map_get hx, ?_⟩; conv => whnf)
        | (refine And.intro (clen rfl hcl) ?_; conv => whnf)
        | (refine ⟨_, drop_id, ?_⟩; conv => whnf)
        | (refine ⟨_, _, at_n, ?_⟩; conv => whnf)
        | (refine ⟨_, _, at_hi, ?_⟩; conv => whnf)
        | (refine ⟨_, _, at_lo, ?_⟩; conv => whnf)
        | (refine ⟨_, _, at_mn, ?_⟩; conv => whnf)
        | (refine ⟨_, _, at_mx, ?_⟩; conv => whnf)
        | (refine ⟨_, _, at_ce, ?_⟩; conv => whnf)
        | (refine ⟨_, _, at_po, ?_⟩; conv => whnf)
        | (refine ⟨_, whole_z sC, clenz sC, ?_⟩; conv => whnf)
        | (refine ⟨_, setzC, ?_⟩; conv => whnf)
        | (refine And.intro (clenz sC) ?_; conv => whnf)
        | (refine And.intro fitzC ?_; conv => whnf)
        | (refine ⟨_, whole_cell sC hcl, clen sC hcl, ?_⟩; conv => whnf)
        | (refine And.intro (clen sC hcl) ?_; conv => whnf)
        | (refine And.intro (fitC hcl) ?_; conv => whnf)
        | (refine ⟨_, setC hcl, ?_⟩; conv => whnf)
        | (refine ⟨_, whole_z sF, clenz sF, ?_⟩; conv => whnf)
        | (refine ⟨_, setzF, ?_⟩; conv => whnf)
        | (refine And.intro (clenz sF) ?_; conv => whnf)
        | (refine And.intro fitzF ?_; conv => whnf)
        | (refine ⟨_, whole_cell sF hcl, clen sF hcl, ?_⟩; conv => whnf)
        | (refine And.intro (clen sF hcl) ?_; conv => whnf)
        | (refine And.intro (fitF hcl) ?_; conv => whnf)
        | (refine ⟨_, setF hcl, ?_⟩; conv => whnf)
        | (refine And.intro (fit1 hcl (by decide)) ?_; conv => whnf)
        | (refine And.intro (fit1 rfl (by decide)) ?_; conv => whnf)
        | (refine ⟨_, sum_cell s25, rfl, ?_⟩; conv => whnf)
        | (refine ⟨_, set_n _, ?_⟩; conv => whnf)
        | (refine ⟨_, set_mn _, ?_⟩; conv => whnf)
        | (refine ⟨_, set_mx _, ?_⟩; conv => whnf)
        | (refine ⟨_, set_ce _, ?_⟩; conv => whnf)
        | (refine ⟨_, set_po _, ?_⟩; conv => whnf)
        | (refine ⟨_, set_s _, ?_⟩; conv => whnf)
        | (refine ⟨_, set_hi _, ?_⟩; conv => whnf)
        | (refine ⟨_, set_lo _, ?_⟩; conv => whnf)
        | (refine And.intro (fun _ => ?_) tf; conv => whnf)
        | (refine And.intro ft (fun _ => ?_); conv => whnf)
        | (refine And.intro (by kernel_rfl) ?_; conv => whnf)
        | (refine And.intro (by decide) ?_; conv => whnf)
        | (refine And.intro (fun _ => ?_) (fun h => absurd h (by decide)); conv => whnf)
        | (refine And.intro (fun h => absurd h (by decide)) (fun _ => ?_); conv => whnf)
        | (refine And.intro (fun _ => ?_) (fun _ => ?_) <;> conv => whnf)
        | (refine ⟨_, _, g2.pu rfl rfl, ?_⟩; conv => whnf)
        | (refine ⟨_, _, ap 72 576 (by kernel_rfl) rfl rfl (by simp [n1]; omega), ?_⟩; conv => whnf)))
      all_goals try (refine Or.inl ?_; conv => whnf)
    all_goals try exact (noGe hlt ‹_›).elim
    refine ⟨k + 1, hlt, show l.length - (k + 1) < l.length - k by omega, ?_⟩
    all_goals refine ⟨[(0, 2)], ?_⟩
    repeat (any_goals (first | exact True.intro | exact rfl | with_reducible_and_instances rfl | exact (by kernel_rfl) | refine And.intro ?_ ?_))
    all_goals conv => whnf
    · exact wk1 (by omega)
    · exact congrArg (AObj.sl 72) (map_take_succ (f := cR) hx).symm
  have hke : k = l.length := by omega
  subst hke
  rw [show l.map cR = (l.take l.length).map cR from by rw [List.take_length]] at m2
  generalize hA : (mergeC l).1 = A at *
  generalize hE : (mergeC l).2 = ea at *
  have hrot : ∀ k, k ≤ l.length → Sat Try.prog 19 [.d (.sl 72 ([] ++ (l.map cR).drop k ++ (l.map cR).take k))] [] (.tup [.d (cD A), iA ea]) [] := fun k hk => by
    have := merge_sat_c (l.drop k ++ l.take k) (fun c hc => hl c ((rot_perm l k).mem_iff.1 hc)) (by rw [(rot_perm l k).length_eq]; omega)
    rw [mergeC_perm (rot_perm l k), hA, hE, List.map_append, List.map_drop, List.map_take] at this
    exact this
  by_cases hin : 0 ≤ turn ∧ turn ≤ l.length
  · obtain ⟨k, rfl⟩ := Int.eq_ofNat_of_zero_le hin.1
    have hkl : k ≤ l.length := by omega
    have m3 := hrot k hkl
    iterate 6
      repeat (any_goals (first
        | exact True.intro
        | (refine ⟨_, drop_id, ?_⟩; conv => whnf)
        | (refine ⟨_, _, at_n, ?_⟩; conv => whnf)
        | (refine ⟨_, _, at_hi, ?_⟩; conv => whnf)
        | (refine ⟨_, _, at_lo, ?_⟩; conv => whnf)
        | (refine ⟨_, _, at_mn, ?_⟩; conv => whnf)
        | (refine ⟨_, _, at_mx, ?_⟩; conv => whnf)
        | (refine ⟨_, _, at_ce, ?_⟩; conv => whnf)
        | (refine ⟨_, _, at_po, ?_⟩; conv => whnf)
        | (refine ⟨_, whole_z sC, clenz sC, ?_⟩; conv => whnf)
        | (refine ⟨_, setzC, ?_⟩; conv => whnf)
        | (refine And.intro (clenz sC) ?_; conv => whnf)
        | (refine And.intro fitzC ?_; conv => whnf)
        | (refine ⟨_, whole_cell sC lm, clen sC lm, ?_⟩; conv => whnf)
        | (refine And.intro (clen sC lm) ?_; conv => whnf)
        | (refine And.intro (fitC lm) ?_; conv => whnf)
        | (refine ⟨_, setC lm, ?_⟩; conv => whnf)
        | (refine ⟨_, whole_z sF, clenz sF, ?_⟩; conv => whnf)
        | (refine ⟨_, setzF, ?_⟩; conv => whnf)
        | (refine And.intro (clenz sF) ?_; conv => whnf)
        | (refine And.intro fitzF ?_; conv => whnf)
        | (refine ⟨_, whole_cell sF lm, clen sF lm, ?_⟩; conv => whnf)
        | (refine And.intro (clen sF lm) ?_; conv => whnf)
        | (refine And.intro (fitF lm) ?_; conv => whnf)
        | (refine ⟨_, setF lm, ?_⟩; conv => whnf)
        | (refine And.intro (fit1 lm (by decide)) ?_; conv => whnf)
        | (refine And.intro (fit1 rfl (by decide)) ?_; conv => whnf)
        | (refine ⟨_, sum_cell s25, rfl, ?_⟩; conv => whnf)
        | (refine ⟨_, set_n _, ?_⟩; conv => whnf)
        | (refine ⟨_, set_mn _, ?_⟩; conv => whnf)
        | (refine ⟨_, set_mx _, ?_⟩; conv => whnf)
        | (refine ⟨_, set_ce _, ?_⟩; conv => whnf)
        | (refine ⟨_, set_po _, ?_⟩; conv => whnf)
        | (refine ⟨_, set_s _, ?_⟩; conv => whnf)
        | (refine ⟨_, set_hi _, ?_⟩; conv => whnf)
        | (refine ⟨_, set_lo _, ?_⟩; conv => whnf)
        | (refine And.intro (fun _ => ?_) tf; conv => whnf)
        | (refine And.intro ft (fun _ => ?_); conv => whnf)
        | (refine And.intro (by kernel_rfl) ?_; conv => whnf)
        | (refine And.intro (by decide) ?_; conv => whnf)
        | (refine And.intro (fun _ => ?_) (fun h => absurd h (by decide)); conv => whnf)
        | (refine And.intro (fun h => absurd h (by decide)) (fun _ => ?_); conv => whnf)
        | (refine And.intro (fun _ => ?_) (fun _ => ?_) <;> conv => whnf)
        | (refine ⟨_, _, m1.pu rfl rfl, ?_⟩; conv => whnf)
        | (refine ⟨_, _, lendO m2 rfl (flat_cE _ _), ?_⟩; conv => whnf)
        | (refine ⟨_, _, from_d (lo := k) 72 576 (by kernel_rfl) (by rw [hm]; exact hkl), ?_⟩; conv => whnf)
        | (refine ⟨_, _, upto_d (hi := k) 72 576 (by kernel_rfl) (by rw [hm]; exact hkl), ?_⟩; conv => whnf)
        | (refine ⟨_, _, apd 72 576 (by kernel_rfl) rfl (by simp; omega), ?_⟩; conv => whnf)
        | (refine ⟨_, _, lendO m3 rfl (flat_cE _ _), ?_⟩; conv => whnf)
        | (refine ⟨_, _, g1.pu rfl rfl, ?_⟩; conv => whnf)
        | (refine ⟨_, _, eqFF om om, ?_⟩; conv => whnf)
        | (refine ⟨_, _, eqCC om om, ?_⟩; conv => whnf)))
      all_goals try (refine Or.inl ?_; conv => whnf)
    all_goals try exact (noLt ‹_›).elim
    all_goals try exact (noA ‹_›).elim
    all_goals try exact (noI ‹_›).elim
    all_goals try (exfalso; simp only [decide_eq_true_eq, decide_eq_false_iff_not, hm] at *; omega)
    all_goals refine ⟨[], ?_⟩
    repeat (any_goals (first | exact True.intro | exact rfl | with_reducible_and_instances rfl | exact (by kernel_rfl) | refine And.intro ?_ ?_))
    all_goals conv => whnf
    all_goals exact congrArg bA (beq_self_eq_true ea)
  · have hkl : 0 ≤ l.length := Nat.zero_le _
    have m3 := hrot 0 hkl
    iterate 6
      repeat (any_goals (first
        | exact True.intro
        | (refine ⟨_, drop_id, ?_⟩; conv => whnf)
        | (refine ⟨_, _, at_n, ?_⟩; conv => whnf)
        | (refine ⟨_, _, at_hi, ?_⟩; conv => whnf)
        | (refine ⟨_, _, at_lo, ?_⟩; conv => whnf)
        | (refine ⟨_, _, at_mn, ?_⟩; conv => whnf)
        | (refine ⟨_, _, at_mx, ?_⟩; conv => whnf)
        | (refine ⟨_, _, at_ce, ?_⟩; conv => whnf)
        | (refine ⟨_, _, at_po, ?_⟩; conv => whnf)
        | (refine ⟨_, whole_z sC, clenz sC, ?_⟩; conv => whnf)
        | (refine ⟨_, setzC, ?_⟩; conv => whnf)
        | (refine And.intro (clenz sC) ?_; conv => whnf)
        | (refine And.intro fitzC ?_; conv => whnf)
        | (refine ⟨_, whole_cell sC lm, clen sC lm, ?_⟩; conv => whnf)
        | (refine And.intro (clen sC lm) ?_; conv => whnf)
        | (refine And.intro (fitC lm) ?_; conv => whnf)
        | (refine ⟨_, setC lm, ?_⟩; conv => whnf)
        | (refine ⟨_, whole_z sF, clenz sF, ?_⟩; conv => whnf)
        | (refine ⟨_, setzF, ?_⟩; conv => whnf)
        | (refine And.intro (clenz sF) ?_; conv => whnf)
        | (refine And.intro fitzF ?_; conv => whnf)
        | (refine ⟨_, whole_cell sF lm, clen sF lm, ?_⟩; conv => whnf)
        | (refine And.intro (clen sF lm) ?_; conv => whnf)
        | (refine And.intro (fitF lm) ?_; conv => whnf)
        | (refine ⟨_, setF lm, ?_⟩; conv => whnf)
        | (refine And.intro (fit1 lm (by decide)) ?_; conv => whnf)
        | (refine And.intro (fit1 rfl (by decide)) ?_; conv => whnf)
        | (refine ⟨_, sum_cell s25, rfl, ?_⟩; conv => whnf)
        | (refine ⟨_, set_n _, ?_⟩; conv => whnf)
        | (refine ⟨_, set_mn _, ?_⟩; conv => whnf)
        | (refine ⟨_, set_mx _, ?_⟩; conv => whnf)
        | (refine ⟨_, set_ce _, ?_⟩; conv => whnf)
        | (refine ⟨_, set_po _, ?_⟩; conv => whnf)
        | (refine ⟨_, set_s _, ?_⟩; conv => whnf)
        | (refine ⟨_, set_hi _, ?_⟩; conv => whnf)
        | (refine ⟨_, set_lo _, ?_⟩; conv => whnf)
        | (refine And.intro (fun _ => ?_) tf; conv => whnf)
        | (refine And.intro ft (fun _ => ?_); conv => whnf)
        | (refine And.intro (by kernel_rfl) ?_; conv => whnf)
        | (refine And.intro (by decide) ?_; conv => whnf)
        | (refine And.intro (fun _ => ?_) (fun h => absurd h (by decide)); conv => whnf)
        | (refine And.intro (fun h => absurd h (by decide)) (fun _ => ?_); conv => whnf)
        | (refine And.intro (fun _ => ?_) (fun _ => ?_) <;> conv => whnf)
        | (refine ⟨_, _, m1.pu rfl rfl, ?_⟩; conv => whnf)
        | (refine ⟨_, _, lendO m2 rfl (flat_cE _ _), ?_⟩; conv => whnf)
        | (refine ⟨_, _, from_d (lo := 0) 72 576 (by kernel_rfl) (by rw [hm]; exact hkl), ?_⟩; conv => whnf)
        | (refine ⟨_, _, upto_d (hi := 0) 72 576 (by kernel_rfl) (by rw [hm]; exact hkl), ?_⟩; conv => whnf)
        | (refine ⟨_, _, apd 72 576 (by kernel_rfl) rfl (by simp; omega), ?_⟩; conv => whnf)
        | (refine ⟨_, _, lendO m3 rfl (flat_cE _ _), ?_⟩; conv => whnf)
        | (refine ⟨_, _, g1.pu rfl rfl, ?_⟩; conv => whnf)
        | (refine ⟨_, _, eqFF om om, ?_⟩; conv => whnf)
        | (refine ⟨_, _, eqCC om om, ?_⟩; conv => whnf)))
      all_goals try (refine Or.inl ?_; conv => whnf)
    all_goals try exact (noLt ‹_›).elim
    all_goals try exact (noA ‹_›).elim
    all_goals try exact (noI ‹_›).elim
    all_goals try (exfalso; simp only [decide_eq_true_eq, decide_eq_false_iff_not, hm] at *; omega)
    all_goals refine ⟨[], ?_⟩
    repeat (any_goals (first | exact True.intro | exact rfl | with_reducible_and_instances rfl | exact (by kernel_rfl) | refine And.intro ?_ ?_))
    all_goals conv => whnf
    all_goals exact congrArg bA (beq_self_eq_true ea)
theorem merges21_law (H : Type) (enc : TypeId × Value → H) : LawWalk H enc Try.prog 4 Try.f4 :=
  lawWalk_of_sat (by kernel_rfl) fun args h => by
    obtain ⟨a, _, rfl, h1, h⟩ := h
    obtain ⟨b, _, rfl, h2, h⟩ := h
    obtain rfl := h
    obtain ⟨l, rfl, hl⟩ := ty_cellss h1
    obtain ⟨z, rfl, hz⟩ := ty_i64 h2 Try.underlying3
    exact merges_sat_c l z hl hz
end Go.Proofs.Ytbjmdnemeidpjaa
/- Two closed facts on the program that every law's statement asks. -/
namespace Go.Proofs.Ytbjmdnemeidpjaa
set_option linter.unusedSimpArgs false
set_option linter.unusedVariables false
open Go.RowKit
theorem own : ownKnob Try.prog.godebug = none := by kernel_rfl
theorem laidOut : laidOutB Try.prog = true := by kernel_rfl
end Go.Proofs.Ytbjmdnemeidpjaa
