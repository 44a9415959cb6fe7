/- Parts SwF, SwG, SwH, SwI, SwJ, SwK of the proof, put together. -/
import Derived.Test.YtefidbifgilekaaM7
/- The document's Without. -/
namespace Go.Proofs.Ytefidbifgilekaa
set_option linter.unusedSimpArgs false
set_option linter.unusedVariables false
open Go.RowKit Go.Sort
set_option maxRecDepth 100000
theorem refRightN_sat (gs : List (Int × Int)) (hn : gs.length ≤ 1000) : Sat Try.prog 48 [.d (.sl 2 (gs.map gR))] [] (iA (validN gs)) [] := by
  have hm : (gs.map gR).length = gs.length := List.length_map _
  refine sat_of_vc (T := tiOf Try.prog) (E := E0) Try.func48 rfl rfl hE0 hm0 rfl ?_
  conv => whnf
  repeat (any_goals (first
    | exact True.intro
    | (refine Or.inl ?_; conv => whnf)
    | (refine And.intro (fun _ => ?_) tf; conv => whnf)
    | (refine And.intro ft (fun _ => ?_); conv => whnf)
    | (refine And.intro (by kernel_rfl) ?_; conv => whnf)
    | (refine And.intro (by decide) ?_; conv => whnf)
    | (refine And.intro (fun _ => ?_) (fun h => absurd h (by decide)); conv => whnf)
    | (refine And.intro (fun h => absurd h (by decide)) (fun _ => ?_); conv => whnf)
    | (refine And.intro (fun _ => ?_) (fun _ => ?_) <;> conv => whnf)))
  refine ⟨Nat, fun k => k ≤ gs.length, fun k => ([(4, iA k), (3, iA (validN (gs.take k))), (0, .d (.sl 2 (gs.map gR)))], []), fun k => gs.length - k, ⟨0, Nat.zero_le _, ?_⟩, ?_⟩
  · all_goals refine ⟨[], ?_⟩
    repeat (any_goals (first | exact True.intro | exact rfl | with_reducible_and_instances rfl | exact (by kernel_rfl) | refine And.intro ?_ ?_))
    all_goals conv => whnf
  intro k hk
  conv => whnf
  have hv : validN (gs.take k) ≤ gs.length := Nat.le_trans List.countP_le_length (by rw [List.length_take]; omega)
  by_cases hlt : k < gs.length
  · have hx : gs[k]? = some gs[k] := List.getElem?_eq_getElem hlt
    generalize gs[k] = g at hx
    have hst : validN (gs.take (k + 1)) = validN (gs.take k) + if okG g = true then 1 else 0 := count_take_succ hx
    repeat (any_goals (first
      | exact True.intro
      | (refine Or.inl ?_; conv => whnf)
      | (refine And.intro (fun _ => ?_) tf; conv => whnf)
      | (refine And.intro ft (fun _ => ?_); conv => whnf)
      | (refine And.intro (by kernel_rfl) ?_; conv => whnf)
      | (refine And.intro (by decide) ?_; conv => whnf)
      | (refine And.intro (fun _ => ?_) (fun h => absurd h (by decide)); conv => whnf)
      | (refine And.intro (fun h => absurd h (by decide)) (fun _ => ?_); conv => whnf)
      | (refine ⟨k, _, rfl, map_get hx, ?_⟩; conv => whnf)
      | (refine And.intro (fun _ => ?_) (fun _ => ?_) <;> conv => whnf)
      | (refine ⟨_, _, (refRight_sat g).pu rfl rfl, ?_⟩; conv => whnf)))
    all_goals try (exfalso; simp only [decide_eq_true_eq, decide_eq_false_iff_not, Bool.not_eq_true', Bool.not_eq_false', Bool.not_eq_true, Bool.not_eq_false, beq_iff_eq, bne_iff_ne, beq_eq_false_iff_ne, bne_eq_false_iff_eq, ne_eq, Decidable.not_not] at *; first | omega | contradiction | (simp_all; done) | (simp_all; omega))
    · have h : okG g = true := (by (try simp only [decide_eq_true_eq, decide_eq_false_iff_not, Bool.not_eq_true', Bool.not_eq_false', Bool.not_eq_true, Bool.not_eq_false, beq_iff_eq, bne_iff_ne, beq_eq_false_iff_ne, bne_eq_false_iff_eq, ne_eq, Decidable.not_not, Int.natCast_eq_zero] at *); first | omega | assumption | (simp_all; done) | (simp_all; omega))
      rw [if_pos h] at hst
      refine ⟨k + 1, hlt, show gs.length - (k + 1) < gs.length - k by omega, ?_⟩
      all_goals refine ⟨[], ?_⟩
      repeat (any_goals (first | exact True.intro | exact rfl | with_reducible_and_instances rfl | exact (by kernel_rfl) | refine And.intro ?_ ?_))
      all_goals conv => whnf
      · exact wk1 (by omega)
      · rw [hst]
        exact wk1 (by omega)
    · have h : ¬ okG g = true := (by (try simp only [decide_eq_true_eq, decide_eq_false_iff_not, Bool.not_eq_true', Bool.not_eq_false', Bool.not_eq_true, Bool.not_eq_false, beq_iff_eq, bne_iff_ne, beq_eq_false_iff_ne, bne_eq_false_iff_eq, ne_eq, Decidable.not_not, Int.natCast_eq_zero] at *); first | omega | assumption | (simp_all; done) | (simp_all; omega))
      rw [if_neg h] at hst
      refine ⟨k + 1, hlt, show gs.length - (k + 1) < gs.length - k by omega, ?_⟩
      all_goals refine ⟨[], ?_⟩
      repeat (any_goals (first | exact True.intro | exact rfl | with_reducible_and_instances rfl | exact (by kernel_rfl) | refine And.intro ?_ ?_))
      all_goals conv => whnf
      · exact wk1 (by omega)
      · rw [hst]; rfl
  · have hke : k = gs.length := by omega
    subst hke
    repeat (any_goals (first
      | exact True.intro
      | (refine Or.inl ?_; conv => whnf)
      | (refine And.intro (fun _ => ?_) tf; conv => whnf)
      | (refine And.intro ft (fun _ => ?_); conv => whnf)
      | (refine And.intro (by kernel_rfl) ?_; conv => whnf)
      | (refine And.intro (by decide) ?_; conv => whnf)
      | (refine And.intro (fun _ => ?_) (fun h => absurd h (by decide)); conv => whnf)
      | (refine And.intro (fun h => absurd h (by decide)) (fun _ => ?_); conv => whnf)
      | (refine And.intro (fun _ => ?_) (fun _ => ?_) <;> conv => whnf)))
    all_goals try (exfalso; simp only [decide_eq_true_eq, decide_eq_false_iff_not, Bool.not_eq_true', Bool.not_eq_false', Bool.not_eq_true, Bool.not_eq_false, beq_iff_eq, bne_iff_ne, beq_eq_false_iff_ne, bne_eq_false_iff_eq, ne_eq, Decidable.not_not] at *; first | omega | contradiction | (simp_all; done) | (simp_all; omega))
    all_goals refine ⟨[], ?_⟩
    repeat (any_goals (first | exact True.intro | exact rfl | with_reducible_and_instances rfl | exact (by kernel_rfl) | refine And.intro ?_ ?_))
    all_goals conv => whnf
    rw [List.take_length]
def wstep (gs : List (Int × Int)) (need : Int) (s g : Int × Int) : Int × Int :=
  if okG g = true then (if need ≤ (votesN g.1 gs : Int) then min s.1 g.1 else s.1, if need ≤ (votesN g.2 gs : Int) then max s.2 g.2 else s.2) else s
def wfold (f : Int) (gs : List (Int × Int)) : Int × Int := gs.foldl (wstep gs ((validN gs : Int) - f)) (9223372036854775807, -9223372036854775808)
def withoutR (f : Int) (gs : List (Int × Int)) : (Int × Int) × Bool := if f < 0 ∨ (validN gs : Int) ≤ f then ((0, 0), false) else if okG (wfold f gs) = true then (wfold f gs, true) else ((0, 0), false)
theorem valid_le (gs : List (Int × Int)) : validN gs ≤ gs.length := List.countP_le_length
theorem withoutR_sat (f : Int) (gs : List (Int × Int)) (hn : gs.length ≤ 1000) : Sat Try.prog 29 [iA f, .d (.sl 2 (gs.map gR))] [] (.tup [gA (withoutR f gs).1, bA (withoutR f gs).2]) [] := by
  have hm : (gs.map gR).length = gs.length := List.length_map _
  have hv := valid_le gs
  have hb0 : wfold f gs = gs.foldl (wstep gs ((validN gs : Int) - f)) (9223372036854775807, -9223372036854775808) := rfl
  have hr1 : f < 0 ∨ (validN gs : Int) ≤ f → withoutR f gs = ((0, 0), false) := fun h => if_pos h
  have hr2 : ¬ (f < 0 ∨ (validN gs : Int) ≤ f) → withoutR f gs = if okG (wfold f gs) = true then (wfold f gs, true) else ((0, 0), false) := fun h => if_neg h
  generalize withoutR f gs = R at *
  generalize wfold f gs = W at *
  refine sat_of_vc (T := tiOf Try.prog) (E := E0) Try.func29 rfl rfl hE0 hm0 rfl ?_
  conv => whnf
  repeat (any_goals (first
    | exact True.intro
    | (refine Or.inl ?_; conv => whnf)
    | (refine And.intro (fun _ => ?_) tf; conv => whnf)
    | (refine And.intro ft (fun _ => ?_); conv => whnf)
    | (refine And.intro (by kernel_rfl) ?_; conv => whnf)
    | (refine And.intro (by decide) ?_; conv => whnf)
    | (refine And.intro (fun _ => ?_) (fun h => absurd h (by decide)); conv => whnf)
    | (refine And.intro (fun h => absurd h (by decide)) (fun _ => ?_); conv => whnf)
    | (refine And.intro (fun _ => ?_) (fun _ => ?_) <;> conv => whnf)
    | (refine ⟨_, _, (refRightN_sat gs hn).pu rfl rfl, ?_⟩; conv => whnf)))
  all_goals try (exfalso; simp only [decide_eq_true_eq, decide_eq_false_iff_not, Bool.not_eq_true', Bool.not_eq_false', Bool.not_eq_true, Bool.not_eq_false, beq_iff_eq, bne_iff_ne, beq_eq_false_iff_ne, bne_eq_false_iff_eq, ne_eq, Decidable.not_not] at *; first | omega | contradiction | (simp_all; done) | (simp_all; omega))
  · rw [hr1 (.inr (of_decide_eq_true ‹decide (f ≥ ↑(validN gs)) = true›))]
    all_goals refine ⟨[], ?_⟩
    repeat (any_goals (first | exact True.intro | exact rfl | with_reducible_and_instances rfl | exact (by kernel_rfl) | refine And.intro ?_ ?_))
    all_goals conv => whnf
  · have f0 : ¬ f < 0 := of_decide_eq_false ‹decide (f < 0) = false›
    have f1 : ¬ f ≥ (validN gs : Int) := of_decide_eq_false ‹decide (f ≥ ↑(validN gs)) = false›
    have hw : IntKind.i64.wrap ((validN gs : Int) - f) = (validN gs : Int) - f := wi (by omega) (by omega)
    rw [hr2 (by omega)]
    have hN : ∀ v : Nat, ((v : Int) ≥ IntKind.i64.wrap ((validN gs : Int) - f)) ↔ ((validN gs : Int) - f ≤ v) := fun v => by rw [hw]
    refine ⟨Nat, fun k => k ≤ gs.length, fun k => ([(8, iA k), (7, .ptr 1 0), (6, iA (validN gs)), (4, .ptr 0 0), (0, iA f), (1, .d (.sl 2 (gs.map gR)))], [.cells [iA 0, iA 0], .cells [iA ((gs.take k).foldl (wstep gs ((validN gs : Int) - f)) (9223372036854775807, -9223372036854775808)).1, iA ((gs.take k).foldl (wstep gs ((validN gs : Int) - f)) (9223372036854775807, -9223372036854775808)).2]]), fun k => gs.length - k, ⟨0, Nat.zero_le _, ?_⟩, ?_⟩
    · all_goals refine ⟨[], ?_⟩
      repeat (any_goals (first | exact True.intro | exact rfl | with_reducible_and_instances rfl | exact (by kernel_rfl) | refine And.intro ?_ ?_))
      all_goals conv => whnf
    intro k hk
    conv => whnf
    by_cases hlt : k < gs.length
    · have hx : gs[k]? = some gs[k] := List.getElem?_eq_getElem hlt
      generalize gs[k] = g at hx
      have hst : (gs.take (k + 1)).foldl (wstep gs ((validN gs : Int) - f)) (9223372036854775807, -9223372036854775808) = wstep gs ((validN gs : Int) - f) ((gs.take k).foldl (wstep gs ((validN gs : Int) - f)) (9223372036854775807, -9223372036854775808)) g := foldl_take_succ hx
      rw [wstep] at hst
      have v1 := votes_sat g.1 gs (by omega)
      have v2 := votes_sat g.2 gs (by omega)
      repeat (any_goals (first
        | exact True.intro
        | (refine Or.inl ?_; conv => whnf)
        | (refine And.intro (fun _ => ?_) tf; conv => whnf)
        | (refine And.intro ft (fun _ => ?_); conv => whnf)
        | (refine And.intro (by kernel_rfl) ?_; conv => whnf)
        | (refine And.intro (by decide) ?_; conv => whnf)
        | (refine And.intro (fun _ => ?_) (fun h => absurd h (by decide)); conv => whnf)
        | (refine And.intro (fun h => absurd h (by decide)) (fun _ => ?_); conv => whnf)
        | (refine ⟨k, _, rfl, map_get hx, ?_⟩; conv => whnf)
        | (refine And.intro (fun _ => ?_) (fun _ => ?_) <;> conv => whnf)
        | (refine ⟨_, _, (refRight_sat g).pu rfl rfl, ?_⟩; conv => whnf)
        | (refine ⟨_, _, v1.pu rfl rfl, ?_⟩; conv => whnf)
        | (refine ⟨_, _, v2.pu rfl rfl, ?_⟩; conv => whnf)))
      all_goals try (exfalso; simp only [decide_eq_true_eq, decide_eq_false_iff_not, Bool.not_eq_true', Bool.not_eq_false', Bool.not_eq_true, Bool.not_eq_false, beq_iff_eq, bne_iff_ne, beq_eq_false_iff_ne, bne_eq_false_iff_eq, ne_eq, Decidable.not_not] at *; first | omega | contradiction | (simp_all; done) | (simp_all; omega))
      all_goals refine ⟨k + 1, hlt, show gs.length - (k + 1) < gs.length - k by omega, ?_⟩
      · have h : ¬ okG g = true := (by (try simp only [decide_eq_true_eq, decide_eq_false_iff_not, Bool.not_eq_true', Bool.not_eq_false', Bool.not_eq_true, Bool.not_eq_false, beq_iff_eq, bne_iff_ne, beq_eq_false_iff_ne, bne_eq_false_iff_eq, ne_eq, Decidable.not_not, Int.natCast_eq_zero] at *); first | omega | assumption | (simp_all; done) | (simp_all; omega))
        rw [if_neg h] at hst
        all_goals refine ⟨[], ?_⟩
        repeat (any_goals (first | exact True.intro | exact rfl | with_reducible_and_instances rfl | exact (by kernel_rfl) | refine And.intro ?_ ?_))
        all_goals conv => whnf
        · exact wk1 (by omega)
        all_goals rw [hst]
      · have h : okG g = true := (by (try simp only [decide_eq_true_eq, decide_eq_false_iff_not, Bool.not_eq_true', Bool.not_eq_false', Bool.not_eq_true, Bool.not_eq_false, beq_iff_eq, bne_iff_ne, beq_eq_false_iff_ne, bne_eq_false_iff_eq, ne_eq, Decidable.not_not, Int.natCast_eq_zero] at *); first | omega | assumption | (simp_all; done) | (simp_all; omega))
        have q1 := (hN _).1 (of_decide_eq_true ‹decide ((votesN g.1 gs : Int) ≥ _) = true›)
        have q2 := (hN _).1 (of_decide_eq_true ‹decide ((votesN g.2 gs : Int) ≥ _) = true›)
        rw [if_pos h, if_pos q1, if_pos q2] at hst
        all_goals refine ⟨[], ?_⟩
        repeat (any_goals (first | exact True.intro | exact rfl | with_reducible_and_instances rfl | exact (by kernel_rfl) | refine And.intro ?_ ?_))
        all_goals conv => whnf
        · exact wk1 (by omega)
        · refine congrArg iA ?_
          rw [hst]
          show _ = min _ _
          split <;> omega
        · refine congrArg iA ?_
          rw [hst]
          show _ = max _ _
          split <;> omega
      · have h : okG g = true := (by (try simp only [decide_eq_true_eq, decide_eq_false_iff_not, Bool.not_eq_true', Bool.not_eq_false', Bool.not_eq_true, Bool.not_eq_false, beq_iff_eq, bne_iff_ne, beq_eq_false_iff_ne, bne_eq_false_iff_eq, ne_eq, Decidable.not_not, Int.natCast_eq_zero] at *); first | omega | assumption | (simp_all; done) | (simp_all; omega))
        have q1 := (hN _).1 (of_decide_eq_true ‹decide ((votesN g.1 gs : Int) ≥ _) = true›)
        have q2 := mt (hN _).2 (of_decide_eq_false ‹decide ((votesN g.2 gs : Int) ≥ _) = false›)
        rw [if_pos h, if_pos q1, if_neg q2] at hst
        all_goals refine ⟨[], ?_⟩
        repeat (any_goals (first | exact True.intro | exact rfl | with_reducible_and_instances rfl | exact (by kernel_rfl) | refine And.intro ?_ ?_))
        all_goals conv => whnf
        · exact wk1 (by omega)
        · refine congrArg iA ?_
          rw [hst]
          show _ = min _ _
          split <;> omega
        · rw [hst]
      · have h : okG g = true := (by (try simp only [decide_eq_true_eq, decide_eq_false_iff_not, Bool.not_eq_true', Bool.not_eq_false', Bool.not_eq_true, Bool.not_eq_false, beq_iff_eq, bne_iff_ne, beq_eq_false_iff_ne, bne_eq_false_iff_eq, ne_eq, Decidable.not_not, Int.natCast_eq_zero] at *); first | omega | assumption | (simp_all; done) | (simp_all; omega))
        have q1 := mt (hN _).2 (of_decide_eq_false ‹decide ((votesN g.1 gs : Int) ≥ _) = false›)
        have q2 := (hN _).1 (of_decide_eq_true ‹decide ((votesN g.2 gs : Int) ≥ _) = true›)
        rw [if_pos h, if_neg q1, if_pos q2] at hst
        all_goals refine ⟨[], ?_⟩
        repeat (any_goals (first | exact True.intro | exact rfl | with_reducible_and_instances rfl | exact (by kernel_rfl) | refine And.intro ?_ ?_))
        all_goals conv => whnf
        · exact wk1 (by omega)
        · rw [hst]
        · refine congrArg iA ?_
          rw [hst]
          show _ = max _ _
          split <;> omega
      · have h : okG g = true := (by (try simp only [decide_eq_true_eq, decide_eq_false_iff_not, Bool.not_eq_true', Bool.not_eq_false', Bool.not_eq_true, Bool.not_eq_false, beq_iff_eq, bne_iff_ne, beq_eq_false_iff_ne, bne_eq_false_iff_eq, ne_eq, Decidable.not_not, Int.natCast_eq_zero] at *); first | omega | assumption | (simp_all; done) | (simp_all; omega))
        have q1 := mt (hN _).2 (of_decide_eq_false ‹decide ((votesN g.1 gs : Int) ≥ _) = false›)
        have q2 := mt (hN _).2 (of_decide_eq_false ‹decide ((votesN g.2 gs : Int) ≥ _) = false›)
        rw [if_pos h, if_neg q1, if_neg q2] at hst
        all_goals refine ⟨[], ?_⟩
        repeat (any_goals (first | exact True.intro | exact rfl | with_reducible_and_instances rfl | exact (by kernel_rfl) | refine And.intro ?_ ?_))
        all_goals conv => whnf
        · exact wk1 (by omega)
        all_goals rw [hst]
    · have hke : k = gs.length := by omega
      subst hke
      have ht : (gs.take gs.length).foldl (wstep gs ((validN gs : Int) - f)) (9223372036854775807, -9223372036854775808) = W := by rw [List.take_length, hb0]
      repeat (any_goals (first
        | exact True.intro
        | (refine Or.inl ?_; conv => whnf)
        | (refine And.intro (fun _ => ?_) tf; conv => whnf)
        | (refine And.intro ft (fun _ => ?_); conv => whnf)
        | (refine And.intro (by kernel_rfl) ?_; conv => whnf)
        | (refine And.intro (by decide) ?_; conv => whnf)
        | (refine And.intro (fun _ => ?_) (fun h => absurd h (by decide)); conv => whnf)
        | (refine And.intro (fun h => absurd h (by decide)) (fun _ => ?_); conv => whnf)
        | (refine And.intro (fun _ => ?_) (fun _ => ?_) <;> conv => whnf)))
      all_goals try (exfalso; simp only [decide_eq_true_eq, decide_eq_false_iff_not, Bool.not_eq_true', Bool.not_eq_false', Bool.not_eq_true, Bool.not_eq_false, beq_iff_eq, bne_iff_ne, beq_eq_false_iff_ne, bne_eq_false_iff_eq, ne_eq, Decidable.not_not] at *; first | omega | contradiction | (simp_all; done) | (simp_all; omega))
      rw [ht]
      repeat (any_goals (first
        | exact True.intro
        | (refine Or.inl ?_; conv => whnf)
        | (refine And.intro (fun _ => ?_) tf; conv => whnf)
        | (refine And.intro ft (fun _ => ?_); conv => whnf)
        | (refine And.intro (by kernel_rfl) ?_; conv => whnf)
        | (refine And.intro (by decide) ?_; conv => whnf)
        | (refine And.intro (fun _ => ?_) (fun h => absurd h (by decide)); conv => whnf)
        | (refine And.intro (fun h => absurd h (by decide)) (fun _ => ?_); conv => whnf)
        | (refine And.intro (fun _ => ?_) (fun _ => ?_) <;> conv => whnf)
        | (refine ⟨_, _, (refRight_sat W).pu rfl rfl, ?_⟩; conv => whnf)))
      all_goals try (exfalso; simp only [decide_eq_true_eq, decide_eq_false_iff_not, Bool.not_eq_true', Bool.not_eq_false', Bool.not_eq_true, Bool.not_eq_false, beq_iff_eq, bne_iff_ne, beq_eq_false_iff_ne, bne_eq_false_iff_eq, ne_eq, Decidable.not_not] at *; first | omega | contradiction | (simp_all; done) | (simp_all; omega))
      · have h : ¬ okG W = true := (by (try simp only [decide_eq_true_eq, decide_eq_false_iff_not, Bool.not_eq_true', Bool.not_eq_false', Bool.not_eq_true, Bool.not_eq_false, beq_iff_eq, bne_iff_ne, beq_eq_false_iff_ne, bne_eq_false_iff_eq, ne_eq, Decidable.not_not, Int.natCast_eq_zero] at *); first | omega | assumption | (simp_all; done) | (simp_all; omega))
        rw [if_neg h]
        all_goals refine ⟨[], ?_⟩
        repeat (any_goals (first | exact True.intro | exact rfl | with_reducible_and_instances rfl | exact (by kernel_rfl) | refine And.intro ?_ ?_))
        all_goals conv => whnf
      · have h : okG W = true := (by (try simp only [decide_eq_true_eq, decide_eq_false_iff_not, Bool.not_eq_true', Bool.not_eq_false', Bool.not_eq_true, Bool.not_eq_false, beq_iff_eq, bne_iff_ne, beq_eq_false_iff_ne, bne_eq_false_iff_eq, ne_eq, Decidable.not_not, Int.natCast_eq_zero] at *); first | omega | assumption | (simp_all; done) | (simp_all; omega))
        rw [if_pos h]
        all_goals refine ⟨[], ?_⟩
        repeat (any_goals (first | exact True.intro | exact rfl | with_reducible_and_instances rfl | exact (by kernel_rfl) | refine And.intro ?_ ?_))
        all_goals conv => whnf
  · rw [hr1 (.inl (of_decide_eq_true ‹decide (f < 0) = true›))]
    all_goals refine ⟨[], ?_⟩
    repeat (any_goals (first | exact True.intro | exact rfl | with_reducible_and_instances rfl | exact (by kernel_rfl) | refine And.intro ?_ ?_))
    all_goals conv => whnf
end Go.Proofs.Ytefidbifgilekaa
/- Sweep: plain laws of the ends in order. -/
namespace Go.Proofs.Ytefidbifgilekaa
set_option linter.unusedSimpArgs false
set_option linter.unusedVariables false
open Go.RowKit Go.Sort
def lowE (l : List (Int × Bool)) (x : Int) : Nat := l.countP fun e => !e.2 && decide (e.1 ≤ x)
def upE (l : List (Int × Bool)) (x : Int) : Nat := l.countP fun e => e.2 && decide (e.1 < x)
theorem ends_cons (g : Int × Int) (gs : List (Int × Int)) : endsL (g :: gs) = (if okG g = true then [(g.1, false), (g.2, true)] else []) ++ endsL gs := by
  unfold endsL
  by_cases h : okG g = true <;> simp [h]
theorem votes_AB (x : Int) (gs : List (Int × Int)) : (votesN x gs : Int) = (lowE (endsL gs) x : Int) - (upE (endsL gs) x : Int) := by
  induction gs with
  | nil => rfl
  | cons g gs ih =>
    rw [ends_cons]
    have e1 : votesN x (g :: gs) = votesN x gs + if hasG x g = true then 1 else 0 := by unfold votesN; rw [List.countP_cons]
    have e2 : lowE ((if okG g = true then [(g.1, false), (g.2, true)] else []) ++ endsL gs) x = (if okG g = true ∧ g.1 ≤ x then 1 else 0) + lowE (endsL gs) x := by
      unfold lowE
      rw [List.countP_append]
      congr 1
      by_cases h : okG g = true <;> by_cases h' : g.1 ≤ x <;> simp [h, h']
    have e3 : upE ((if okG g = true then [(g.1, false), (g.2, true)] else []) ++ endsL gs) x = (if okG g = true ∧ g.2 < x then 1 else 0) + upE (endsL gs) x := by
      unfold upE
      rw [List.countP_append]
      congr 1
      by_cases h : okG g = true <;> by_cases h' : g.2 < x <;> simp [h, h']
    rw [e1, e2, e3]
    unfold hasG okG
    by_cases h1 : g.1 ≤ x <;> by_cases h2 : x ≤ g.2 <;> by_cases h3 : g.1 ≤ g.2 <;> simp [h1, h2, h3] <;> first | omega | (split <;> omega)
theorem turns_perm (gs : List (Int × Int)) : (turnsL gs).Perm (endsL gs) := sorted_perm _ _
theorem votes_turns (x : Int) (gs : List (Int × Int)) : (votesN x gs : Int) = (lowE (turnsL gs) x : Int) - (upE (turnsL gs) x : Int) := by
  rw [votes_AB]
  unfold lowE upE
  rw [(turns_perm gs).countP_eq, (turns_perm gs).countP_eq]
theorem turns_sorted (gs : List (Int × Int)) : (turnsL gs).Pairwise fun x y => ¬ ltE y x := by
  have h := List.pairwise_mergeSort (le := fun x y => !(ltOf cmpE) y x) (fun a b c h1 h2 => by
    simp only [Bool.not_eq_true'] at h1 h2 ⊢
    exact swoE.ntrans c b a h2 h1) (fun a b => by
    by_cases q : ltOf cmpE b a = true
    · have : ltOf cmpE a b = false := by
        by_cases r : ltOf cmpE a b = true
        · have := swoE.trans a b a r q
          rw [swoE.irrefl] at this; cases this
        · simpa using r
      simp [this]
    · simp [q]) (endsL gs)
  refine h.imp fun {x y} q => ?_
  simp only [Bool.not_eq_true'] at q
  exact (ltOf_F y x).1 q
theorem ends_low {gs : List (Int × Int)} {a : Int} (h : (a, false) ∈ endsL gs) : ∃ g ∈ gs, okG g = true ∧ g.1 = a := by
  unfold endsL at h
  obtain ⟨g, hg, h⟩ := List.mem_flatMap.1 h
  obtain ⟨h1, h2⟩ := List.mem_filter.1 hg
  refine ⟨g, h1, h2, ?_⟩
  simp at h
  exact h.symm
theorem ends_up {gs : List (Int × Int)} {a : Int} (h : (a, true) ∈ endsL gs) : ∃ g ∈ gs, okG g = true ∧ g.2 = a := by
  unfold endsL at h
  obtain ⟨g, hg, h⟩ := List.mem_flatMap.1 h
  obtain ⟨h1, h2⟩ := List.mem_filter.1 hg
  refine ⟨g, h1, h2, ?_⟩
  simp at h
  exact h.symm
/-- Sorted: an end and a later one. -/
theorem at_lt {gs : List (Int × Int)} {j k : Nat} {x y : Int × Bool} (hjk : j < k) (hj : (turnsL gs)[j]? = some x) (hk : (turnsL gs)[k]? = some y) : ¬ ltE y x := by
  obtain ⟨h1, rfl⟩ := List.getElem?_eq_some_iff.1 hj
  obtain ⟨h2, rfl⟩ := List.getElem?_eq_some_iff.1 hk
  exact List.pairwise_iff_getElem.1 (turns_sorted gs) j k h1 h2 hjk
theorem at_le {gs : List (Int × Int)} {j k : Nat} {x y : Int × Bool} (hjk : j ≤ k) (hj : (turnsL gs)[j]? = some x) (hk : (turnsL gs)[k]? = some y) : x.1 ≤ y.1 := by
  rcases Nat.lt_or_eq_of_le hjk with h | h
  · have := at_lt h hj hk
    unfold ltE at this
    simp only [not_or] at this
    omega
  · subst h; rw [hj] at hk; injection hk with hk; rw [hk]; exact Int.le_refl _
/-- A count over the first ones, and over all. -/
theorem count_take_le {l : List (Int × Bool)} {m : Nat} {p q : Int × Bool → Bool} (h : ∀ (j : Nat) x, j < m → l[j]? = some x → p x = true → q x = true) : (l.take m).countP p ≤ l.countP q := by
  refine Nat.le_trans (m := (l.take m).countP q) ?_ ((List.take_sublist m l).countP_le)
  refine List.countP_mono_left fun x hx hp => ?_
  obtain ⟨j, hj⟩ := List.mem_iff_getElem?.1 hx
  have hlt := (List.getElem?_eq_some_iff.1 hj).1
  rw [List.length_take] at hlt
  rw [List.getElem?_take_of_lt (by omega)] at hj
  exact h j x (by omega) hj hp
theorem count_le_take {l : List (Int × Bool)} {m : Nat} {p q : Int × Bool → Bool} (h : ∀ (j : Nat) x, l[j]? = some x → p x = true → j < m ∧ q x = true) : l.countP p ≤ (l.take m).countP q := by
  have e : l.countP p = (l.take m).countP p + (l.drop m).countP p := by
    conv => lhs; rw [← List.take_append_drop m l]
    rw [List.countP_append]
  have e2 : (l.drop m).countP p = 0 := by
    rw [List.countP_eq_zero]
    intro x hx hp
    obtain ⟨j, hj⟩ := List.mem_iff_getElem?.1 hx
    rw [List.getElem?_drop] at hj
    have := (h _ x hj hp).1
    omega
  rw [e, e2, Nat.add_zero]
  refine List.countP_mono_left fun x hx hp => ?_
  obtain ⟨j, hj⟩ := List.mem_iff_getElem?.1 hx
  have hlt := (List.getElem?_eq_some_iff.1 hj).1
  rw [List.length_take] at hlt
  rw [List.getElem?_take_of_lt (by omega)] at hj
  exact (h j x hj hp).2
/-- Where the iterator is, no more votes are told than there are. -/
theorem at_votes {gs : List (Int × Int)} {k : Nat} {e : Int × Bool} (hk : (turnsL gs)[k]? = some e) : votesAt (turnsL gs) k ≤ votesN e.1 gs := by
  rw [votes_turns]
  unfold votesAt lowsN upsN lowE upE
  have h1 : ((turnsL gs).take (k + 1)).countP (fun e => !e.2) ≤ (turnsL gs).countP fun x => !x.2 && decide (x.1 ≤ e.1) := count_take_le fun j x hj hx hp => by
    have := at_le (by omega) hx hk
    rw [hp, Bool.true_and]; exact decide_eq_true this
  have h2 : ((turnsL gs).countP fun x => x.2 && decide (x.1 < e.1)) ≤ ((turnsL gs).take k).countP fun x => x.2 := count_le_take fun j x hx hp => by
    rw [Bool.and_eq_true, decide_eq_true_eq] at hp
    refine ⟨?_, hp.1⟩
    rcases Nat.lt_or_ge j k with q | q
    · exact q
    · have := at_le q hk hx
      omega
  omega
/-- The last thing of a list that is so. -/
theorem last_of {α : Type} {l : List α} {p : α → Bool} (h : ∃ x ∈ l, p x = true) : ∃ (k : Nat) (x : α), l[k]? = some x ∧ p x = true ∧ ∀ (j : Nat) y, l[j]? = some y → p y = true → j ≤ k := by
  induction l with
  | nil => obtain ⟨x, hx, _⟩ := h; simp at hx
  | cons a l ih =>
    by_cases q : ∃ x ∈ l, p x = true
    · obtain ⟨k, x, h1, h2, h3⟩ := ih q
      refine ⟨k + 1, x, by simpa using h1, h2, fun j y hj hy => ?_⟩
      cases j with
      | zero => omega
      | succ j => have := h3 j y (by simpa using hj) hy; omega
    · obtain ⟨x, hx, hp⟩ := h
      rcases List.mem_cons.1 hx with e | e
      · subst e
        refine ⟨0, x, rfl, hp, fun j y hj hy => ?_⟩
        cases j with
        | zero => omega
        | succ j => exact absurd ⟨y, List.mem_of_getElem? (by simpa using hj), hy⟩ q
      · exact absurd ⟨x, e, hp⟩ q
theorem first_of {α : Type} {l : List α} {p : α → Bool} (h : ∃ x ∈ l, p x = true) : ∃ (k : Nat) (x : α), l[k]? = some x ∧ p x = true ∧ ∀ (j : Nat) y, l[j]? = some y → p y = true → k ≤ j := by
  induction l with
  | nil => obtain ⟨x, hx, _⟩ := h; simp at hx
  | cons a l ih =>
    by_cases q : p a = true
    · exact ⟨0, a, rfl, q, fun j y _ _ => Nat.zero_le _⟩
    · obtain ⟨x, hx, hp⟩ := h
      rcases List.mem_cons.1 hx with e | e
      · subst e; exact absurd hp q
      · obtain ⟨k, x, h1, h2, h3⟩ := ih ⟨x, e, hp⟩
        refine ⟨k + 1, x, by simpa using h1, h2, fun j y hj hy => ?_⟩
        cases j with
        | zero => simp at hj; subst hj; exact absurd hy q
        | succ j => have := h3 j y (by simpa using hj) hy; omega
/-- A number's votes are told at a lower end that isn't above it .. -/
theorem told_low {gs : List (Int × Int)} {y : Int} (h : 0 < votesN y gs) : ∃ (k : Nat) (e : Int × Bool), (turnsL gs)[k]? = some e ∧ e.2 = false ∧ e.1 ≤ y ∧ (votesN y gs : Int) ≤ votesAt (turnsL gs) k := by
  have hv := votes_turns y gs
  have hpos : 0 < lowE (turnsL gs) y := by omega
  obtain ⟨x, hx, hp⟩ := List.countP_pos_iff.1 hpos
  obtain ⟨k, e, hk, hpe, hlast⟩ := last_of (p := fun e => !e.2 && decide (e.1 ≤ y)) ⟨x, hx, hp⟩
  rw [Bool.and_eq_true, Bool.not_eq_true', decide_eq_true_eq] at hpe
  refine ⟨k, e, hk, hpe.1, hpe.2, ?_⟩
  rw [hv]
  unfold votesAt lowsN upsN
  have h1 : lowE (turnsL gs) y ≤ ((turnsL gs).take (k + 1)).countP fun e => !e.2 := count_le_take fun j x hx hp => ⟨by have := hlast j x hx hp; omega, by rw [Bool.and_eq_true] at hp; exact hp.1⟩
  have h2 : ((turnsL gs).take k).countP (fun e => e.2) ≤ upE (turnsL gs) y := count_take_le fun j x hj hx hp => by
    have := at_lt hj hx hk
    unfold ltE at this
    simp only [not_or, not_and] at this
    rw [hp, Bool.true_and]
    refine decide_eq_true ?_
    have h3 : x.2 = true := hp
    have := this.2
    by_cases q : e.1 = x.1
    · exact absurd h3 (this q hpe.1)
    · omega
  omega
/-- .. and at an upper end that isn't below it. -/
theorem told_up {gs : List (Int × Int)} {y : Int} (h : 0 < votesN y gs) : ∃ (k : Nat) (e : Int × Bool), (turnsL gs)[k]? = some e ∧ e.2 = true ∧ y ≤ e.1 ∧ (votesN y gs : Int) ≤ votesAt (turnsL gs) k := by
  have hv := votes_turns y gs
  obtain ⟨g, hg, hh⟩ := List.countP_pos_iff.1 h
  have hh := of_decide_eq_true hh
  have hmem : (g.2, true) ∈ turnsL gs := (turns_perm gs).mem_iff.2 (List.mem_flatMap.2 ⟨g, List.mem_filter.2 ⟨hg, decide_eq_true (by omega)⟩, by simp⟩)
  obtain ⟨k, e, hk, hpe, hfirst⟩ := first_of (p := fun e => e.2 && decide (y ≤ e.1)) ⟨_, hmem, by simp; exact hh.2⟩
  rw [Bool.and_eq_true, decide_eq_true_eq] at hpe
  refine ⟨k, e, hk, hpe.1, hpe.2, ?_⟩
  rw [hv]
  unfold votesAt lowsN upsN
  have h1 : lowE (turnsL gs) y ≤ ((turnsL gs).take (k + 1)).countP fun e => !e.2 := count_le_take fun j x hx hp => by
    rw [Bool.and_eq_true, Bool.not_eq_true', decide_eq_true_eq] at hp
    refine ⟨?_, by rw [hp.1]; rfl⟩
    rcases Nat.lt_or_ge j (k + 1) with q | q
    · exact q
    · have := at_lt (show k < j by omega) hk hx
      unfold ltE at this
      simp only [not_or, not_and] at this
      by_cases r : x.1 < e.1
      · exact absurd r this.1
      · exact absurd hpe.1 (this.2 (by omega) hp.1)
  have h2 : ((turnsL gs).take k).countP (fun e => e.2) ≤ upE (turnsL gs) y := count_take_le fun j x hj hx hp => by
    have hp : x.2 = true := hp
    rw [hp, Bool.true_and]
    refine decide_eq_true ?_
    rcases Int.lt_or_le x.1 y with q | q
    · exact q
    · have := hfirst j x hx (by rw [hp, Bool.true_and]; exact decide_eq_true q)
      omega
  omega
theorem low_gap {gs : List (Int × Int)} {y : Int} (h : 0 < votesN y gs) : ∃ g ∈ gs, okG g = true ∧ g.1 ≤ y ∧ votesN y gs ≤ votesN g.1 gs := by
  obtain ⟨k, ⟨a, b⟩, hk, rfl, h2, h3⟩ := told_low h
  obtain ⟨g, hg, ho, rfl⟩ := ends_low ((turns_perm gs).mem_iff.1 (List.mem_of_getElem? hk))
  have := at_votes hk
  exact ⟨g, hg, ho, h2, by have : votesAt (turnsL gs) k ≤ votesN g.1 gs := this; omega⟩
theorem up_gap {gs : List (Int × Int)} {y : Int} (h : 0 < votesN y gs) : ∃ g ∈ gs, okG g = true ∧ y ≤ g.2 ∧ votesN y gs ≤ votesN g.2 gs := by
  obtain ⟨k, ⟨a, b⟩, hk, rfl, h2, h3⟩ := told_up h
  obtain ⟨g, hg, ho, rfl⟩ := ends_up ((turns_perm gs).mem_iff.1 (List.mem_of_getElem? hk))
  have := at_votes hk
  exact ⟨g, hg, ho, h2, by have : votesAt (turnsL gs) k ≤ votesN g.2 gs := this; omega⟩
end Go.Proofs.Ytefidbifgilekaa
/- Sweep: the best numbers, and where all but so many agree: plain laws. -/
namespace Go.Proofs.Ytefidbifgilekaa
set_option linter.unusedSimpArgs false
set_option linter.unusedVariables false
open Go.RowKit Go.Sort
structure IsBest (gs : List (Int × Int)) (m : Nat) (x : Int) : Prop where
  most : ∀ y, votesN y gs ≤ m
  at_ : 0 < m → votesN x gs = m
  least : 0 < m → ∀ y, votesN y gs = m → x ≤ y
theorem IsBest.uniq {gs : List (Int × Int)} {m m' : Nat} {x x' : Int} (h : IsBest gs m x) (h' : IsBest gs m' x') : m = m' ∧ (0 < m → x = x') := by
  have e : m = m' := by
    rcases Nat.eq_zero_or_pos m with q | q <;> rcases Nat.eq_zero_or_pos m' with q' | q'
    · omega
    · have := h'.at_ q'; have := h.most x'; omega
    · have := h.at_ q; have := h'.most x; omega
    · have := h'.at_ q'; have := h.most x'; have := h.at_ q; have := h'.most x; omega
  subst e
  refine ⟨rfl, fun q => ?_⟩
  have h1 := h.least q x' (h'.at_ q)
  have h2 := h'.least q x (h.at_ q)
  omega
theorem bestF_spec (S : List (Int × Bool)) : ∀ (K : Nat), K ≤ S.length → 0 ≤ (bestF S K).2 ∧ (∀ k, k < K → votesAt S k ≤ (bestF S K).2) ∧ (0 < (bestF S K).2 → ∃ (k : Nat) (e : Int × Bool), k < K ∧ S[k]? = some e ∧ (bestF S K) = (e.1, votesAt S k) ∧ ∀ j, j < k → votesAt S j < votesAt S k)
  | 0, _ => ⟨Int.le_refl _, fun k hk => by omega, fun h => absurd h (by show ¬ (0 : Int) < 0; omega)⟩
  | K + 1, hK => by
    obtain ⟨h0, h1, h2⟩ := bestF_spec S K (by omega)
    have he := List.getElem?_eq_getElem (show K < S.length by omega)
    rw [bestF_succ he]
    by_cases q : (bestF S K).2 < votesAt S K
    · rw [if_pos q]
      refine ⟨by show 0 ≤ votesAt S K; omega, fun k hk => ?_, fun _ => ⟨K, _, by omega, he, rfl, fun j hj => ?_⟩⟩
      · show votesAt S k ≤ votesAt S K
        rcases Nat.lt_or_eq_of_le (Nat.le_of_lt_succ hk) with r | r
        · have := h1 k r; omega
        · subst r; exact Int.le_refl _
      · have := h1 j hj; omega
    · rw [if_neg q]
      refine ⟨h0, fun k hk => ?_, fun hp => ?_⟩
      · rcases Nat.lt_or_eq_of_le (Nat.le_of_lt_succ hk) with r | r
        · exact h1 k r
        · subst r; omega
      · obtain ⟨k, e, a, b, c, d⟩ := h2 hp
        exact ⟨k, e, by omega, b, c, d⟩
/-- The program's best ones. -/
theorem bestE_is (gs : List (Int × Int)) : 0 ≤ (bestE gs).2 ∧ IsBest gs (bestE gs).2.toNat (bestE gs).1 := by
  obtain ⟨h0, h1, h2⟩ := bestF_spec (turnsL gs) (turnsL gs).length (Nat.le_refl _)
  have most : ∀ y, (votesN y gs : Int) ≤ (bestE gs).2 := fun y => by
    rcases Nat.eq_zero_or_pos (votesN y gs) with q | q
    · rw [q]; exact h0
    · obtain ⟨k, e, hk, _, _, h⟩ := told_low q
      have := h1 k (List.getElem?_eq_some_iff.1 hk).1
      have : votesAt (turnsL gs) k ≤ (bestE gs).2 := this
      omega
  refine ⟨h0, fun y => by have := most y; omega, fun hp => ?_, fun hp y hy => ?_⟩
  · obtain ⟨k, e, _, hk, he, _⟩ := h2 (by have : (0 : Int) < (bestE gs).2 := by omega
                                          exact this)
    have he : bestE gs = (e.1, votesAt (turnsL gs) k) := he
    have h3 := at_votes hk
    have h4 := most (bestE gs).1
    rw [he] at h4 ⊢
    simp only at h3 h4 ⊢
    omega
  · obtain ⟨k, e, _, hk, he, hf⟩ := h2 (by have : (0 : Int) < (bestE gs).2 := by omega
                                           exact this)
    have he : bestE gs = (e.1, votesAt (turnsL gs) k) := he
    obtain ⟨k', e', hk', _, hle, hv⟩ := told_low (show 0 < votesN y gs by omega)
    rw [he] at hp hy ⊢
    simp only at hp hy ⊢
    have hkk : k ≤ k' := by
      rcases Nat.lt_or_ge k' k with q | q
      · have := hf k' q; omega
      · exact q
    have := at_le hkk hk hk'
    omega
theorem best_min (gs : List (Int × Int)) : ∀ (l : List (Int × Int)) (s : Nat × Int), 0 < (l.foldl (bstep gs) s).1 → (s.1 = (l.foldl (bstep gs) s).1 → (l.foldl (bstep gs) s).2 ≤ s.2) ∧ ∀ g ∈ l, votesN g.1 gs = (l.foldl (bstep gs) s).1 → (l.foldl (bstep gs) s).2 ≤ g.1
  | [], s, _ => ⟨fun _ => Int.le_refl _, fun g hg => by simp at hg⟩
  | x :: l, s, hp => by
    rw [List.foldl_cons] at hp ⊢
    obtain ⟨h1, h2⟩ := best_min gs l (bstep gs s x) hp
    obtain ⟨h3, _⟩ := best_ge gs l (bstep gs s x)
    generalize l.foldl (bstep gs) (bstep gs s x) = f at *
    have hb : (s.1 ≤ (bstep gs s x).1 ∧ votesN x.1 gs ≤ (bstep gs s x).1) ∧ (s.1 = (bstep gs s x).1 → (bstep gs s x).2 ≤ s.2) ∧ (votesN x.1 gs = (bstep gs s x).1 → 0 < (bstep gs s x).1 → (bstep gs s x).2 ≤ x.1) := by
      unfold bstep
      split
      · rename_i h
        simp only
        exact ⟨by rcases h with h | ⟨h, _⟩ <;> omega, fun q => by rcases h with h | ⟨h, _, h'⟩ <;> omega, fun _ _ => Int.le_refl _⟩
      · rename_i h
        simp only [not_or, not_and] at h
        refine ⟨⟨Nat.le_refl _, by omega⟩, fun _ => Int.le_refl _, fun q hp => ?_⟩
        have := h.2 q (by omega)
        omega
    obtain ⟨⟨b1, b2⟩, b3, b4⟩ := hb
    refine ⟨fun q => ?_, fun g hg q => ?_⟩
    · have := h1 (by omega)
      have := b3 (by omega)
      omega
    · rcases List.mem_cons.1 hg with e | e
      · subst e
        have := h1 (by omega)
        have := b4 (by omega) (by omega)
        omega
      · exact h2 g e q
/-- The document's. -/
theorem bestS_is (gs : List (Int × Int)) : IsBest gs (bestS gs).1 (bestS gs).2 := by
  obtain ⟨_, b2⟩ := best_ge gs gs (0, 0)
  have b3 := best_src gs gs (0, 0)
  have b4 := best_min gs gs (0, 0)
  have b2 : ∀ g ∈ gs, votesN g.1 gs ≤ (bestS gs).1 := b2
  have b3 : bestS gs = (0, 0) ∨ ∃ g ∈ gs, bestS gs = (votesN g.1 gs, g.1) := b3
  have b4 : 0 < (bestS gs).1 → _ ∧ ∀ g ∈ gs, votesN g.1 gs = (bestS gs).1 → (bestS gs).2 ≤ g.1 := b4
  have most : ∀ y, votesN y gs ≤ (bestS gs).1 := fun y => by
    rcases Nat.eq_zero_or_pos (votesN y gs) with q | q
    · omega
    · obtain ⟨g, hg, _, _, h⟩ := low_gap q
      have := b2 g hg
      omega
  refine ⟨most, fun hp => ?_, fun hp y hy => ?_⟩
  · rcases b3 with e | ⟨g, _, e⟩
    · rw [e] at hp; exact absurd hp (by simp)
    · rw [e]
  · obtain ⟨g, hg, _, hle, h⟩ := low_gap (show 0 < votesN y gs by omega)
    have h5 := most g.1
    have := (b4 hp).2 g hg (by omega)
    omega
theorem meetL_snd (x : Int) : ∀ (gs : List (Int × Int)) (a : Int × Int), (meetL a (gs.filter (hasG x))).2 = gs.foldl (hstep x) a.2
  | [], a => rfl
  | g :: gs, a => by
    rw [List.filter_cons, List.foldl_cons]
    unfold hstep
    split
    · have e : meetL a (g :: gs.filter (hasG x)) = meetL (max a.1 g.1, min a.2 g.2) (gs.filter (hasG x)) := rfl
      rw [e]
      exact meetL_snd x gs _
    · exact meetL_snd x gs a
def inGs (gs : List (Int × Int)) : Prop := ∀ g ∈ gs, in64 g.1 ∧ in64 g.2
/-- What the gaps have that have a best number. -/
theorem meet_best {gs : List (Int × Int)} (hin : inGs gs) {m : Nat} {x : Int} (h : IsBest gs m x) (hm : 0 < m) : meetR (gs.filter (hasG x)) = ((x, bestH x gs), 0) ∧ x ≤ bestH x gs ∧ in64 x := by
  have hv := h.at_ hm
  obtain ⟨g, hg, ho, hle, hvg⟩ := low_gap (show 0 < votesN x gs by omega)
  have hge := h.least hm g.1 (by have := h.most g.1; omega)
  have hx : g.1 = x := by omega
  have hxin : in64 x := hx ▸ (hin g hg).1
  have hmem : g ∈ gs.filter (hasG x) := List.mem_filter.2 ⟨hg, decide_eq_true ⟨by omega, by have : g.1 ≤ g.2 := of_decide_eq_true ho; omega⟩⟩
  have hall : ∀ y ∈ gs.filter (hasG x), y.1 ≤ x ∧ x ≤ y.2 := fun y hy => of_decide_eq_true (List.mem_filter.1 hy).2
  obtain ⟨i1, i2⟩ := hxin
  have hi := meetL_in x (gs.filter (hasG x)) allG i1 i2 hall
  have h1 : (meetL allG (gs.filter (hasG x))).1 = x := by
    have := (meetL_le allG (gs.filter (hasG x)) hmem).1
    omega
  have h2 : (meetL allG (gs.filter (hasG x))).2 = bestH x gs := meetL_snd x gs allG
  have h3 : meetL allG (gs.filter (hasG x)) = (x, bestH x gs) := Prod.ext h1 h2
  refine ⟨?_, by rw [← h2]; exact hi.2, ⟨i1, i2⟩⟩
  unfold meetR foldR
  rw [if_neg, h3, if_pos (show okG (x, bestH x gs) = true from decide_eq_true (by show x ≤ bestH x gs; rw [← h2]; exact hi.2))]
  rw [show (gs.filter (hasG x)).all okG = true from List.all_eq_true.2 fun y hy => decide_eq_true (by have := hall y hy; omega)]
  simp
theorem bestP_eq {gs : List (Int × Int)} (hin : inGs gs) : bestP gs = ((bestR gs).1, ((bestR gs).2 : Int)) := by
  obtain ⟨h0, h1⟩ := bestE_is gs
  have h2 := bestS_is gs
  obtain ⟨e1, e2⟩ := h1.uniq h2
  unfold bestP bestR
  by_cases q : (bestE gs).2 = 0
  · rw [if_pos q, if_pos (by omega)]; rfl
  · rw [if_neg q, if_neg (by omega)]
    have hm : 0 < (bestE gs).2.toNat := by omega
    have hx := e2 hm
    rw [(meet_best hin h1 hm).1, ← e1, ← hx]
    simp only [Prod.mk.injEq, true_and]
    omega
end Go.Proofs.Ytefidbifgilekaa
/- Sweep: where all but so many agree: plain laws. -/
namespace Go.Proofs.Ytefidbifgilekaa
set_option linter.unusedSimpArgs false
set_option linter.unusedVariables false
open Go.RowKit Go.Sort
structure IsFar (gs : List (Int × Int)) (n : Int) (r : (Int × Int) × Bool) : Prop where
  is : r.2 = true ↔ ∃ y, n ≤ (votesN y gs : Int)
  lo : r.2 = true → n ≤ (votesN r.1.1 gs : Int)
  hi : r.2 = true → n ≤ (votesN r.1.2 gs : Int)
  far : r.2 = true → ∀ y, n ≤ (votesN y gs : Int) → r.1.1 ≤ y ∧ y ≤ r.1.2
theorem IsFar.uniq {gs : List (Int × Int)} {n : Int} {r r' : (Int × Int) × Bool} (h : IsFar gs n r) (h' : IsFar gs n r') : r.2 = r'.2 ∧ (r.2 = true → r.1 = r'.1) := by
  have e : r.2 = r'.2 := by rw [Bool.eq_iff_iff]; exact h.is.trans h'.is.symm
  refine ⟨e, fun q => ?_⟩
  have q' : r'.2 = true := e ▸ q
  have a1 := h.far q _ (h'.lo q')
  have a2 := h'.far q' _ (h.lo q)
  have a3 := h.far q _ (h'.hi q')
  have a4 := h'.far q' _ (h.hi q)
  exact Prod.ext (by omega) (by omega)
theorem outF_spec (S : List (Int × Bool)) (n : Int) : ∀ (K : Nat), K ≤ S.length → ((outF S n K).2 = false → ∀ k, k < K → votesAt S k < n) ∧ ((outF S n K).2 = true → ∃ (k k' : Nat) (e e' : Int × Bool), k < K ∧ k' < K ∧ S[k]? = some e ∧ S[k']? = some e' ∧ n ≤ votesAt S k ∧ n ≤ votesAt S k' ∧ (outF S n K).1 = (e.1, e'.1) ∧ (∀ j, j < k → votesAt S j < n) ∧ ∀ j, j < K → n ≤ votesAt S j → j ≤ k')
  | 0, _ => ⟨fun _ k hk => by omega, fun h => by cases h⟩
  | K + 1, hK => by
    obtain ⟨h1, h2⟩ := outF_spec S n K (by omega)
    have he := List.getElem?_eq_getElem (show K < S.length by omega)
    rw [outF_succ he]
    by_cases q : votesAt S K < n
    · rw [if_pos q]
      refine ⟨fun h k hk => ?_, fun h => ?_⟩
      · rcases Nat.lt_or_eq_of_le (Nat.le_of_lt_succ hk) with r | r
        · exact h1 h k r
        · subst r; exact q
      · obtain ⟨k, k', e, e', a1, a2, a3, a4, a5, a6, a7, a8, a9⟩ := h2 h
        refine ⟨k, k', e, e', by omega, by omega, a3, a4, a5, a6, a7, a8, fun j hj hv => ?_⟩
        rcases Nat.lt_or_eq_of_le (Nat.le_of_lt_succ hj) with r | r
        · exact a9 j r hv
        · subst r; omega
    · rw [if_neg q]
      refine ⟨fun h => (by cases h), fun _ => ?_⟩
      by_cases r : (outF S n K).2 = true
      · obtain ⟨k, k', e, e', a1, a2, a3, a4, a5, a6, a7, a8, a9⟩ := h2 r
        rw [if_pos r, a7]
        exact ⟨k, K, e, _, by omega, by omega, a3, he, a5, by omega, rfl, a8, fun j hj _ => by omega⟩
      · rw [if_neg r]
        exact ⟨K, K, _, _, by omega, by omega, he, he, by omega, by omega, rfl, fun j hj => h1 (by simpa using r) j hj, fun j hj _ => by omega⟩
/-- The program's. -/
theorem outE_is (gs : List (Int × Int)) (f : Int) (hf : f < (validN gs : Int)) : IsFar gs ((validN gs : Int) - f) (outE f gs) := by
  obtain ⟨h1, h2⟩ := outF_spec (turnsL gs) ((validN gs : Int) - f) (turnsL gs).length (Nat.le_refl _)
  have hr : outF (turnsL gs) ((validN gs : Int) - f) (turnsL gs).length = outE f gs := rfl
  rw [hr] at h1 h2
  generalize outE f gs = r at *
  generalize hn : (validN gs : Int) - f = n at *
  have hpos : 0 < n := by omega
  refine ⟨⟨fun h => ?_, ?_⟩, fun h => ?_, fun h => ?_, fun h y hy => ?_⟩
  · obtain ⟨k, _, e, _, _, _, a3, _, a5, _⟩ := h2 h
    exact ⟨e.1, Int.le_trans a5 (at_votes a3)⟩
  · rintro ⟨y, hy⟩
    by_cases q : r.2 = true
    · exact q
    · obtain ⟨k, e, hk, _, _, hv⟩ := told_low (gs := gs) (y := y) (by omega)
      have := h1 (by simpa using q) k (List.getElem?_eq_some_iff.1 hk).1
      omega
  · obtain ⟨k, _, e, _, _, _, a3, _, a5, _, a7, _⟩ := h2 h
    rw [a7]
    exact Int.le_trans a5 (at_votes a3)
  · obtain ⟨_, k, _, e, _, _, _, a4, _, a6, a7, _⟩ := h2 h
    rw [a7]
    exact Int.le_trans a6 (at_votes a4)
  · obtain ⟨k, k', e, e', a1, a2, a3, a4, a5, a6, a7, a8, a9⟩ := h2 h
    rw [a7]
    obtain ⟨j, x, hj, _, hle, hv⟩ := told_low (gs := gs) (y := y) (by omega)
    obtain ⟨j', x', hj', _, hle', hv'⟩ := told_up (gs := gs) (y := y) (by omega)
    have b1 : k ≤ j := by
      rcases Nat.lt_or_ge j k with q | q
      · have := a8 j q; omega
      · exact q
    have b2 := a9 j' (List.getElem?_eq_some_iff.1 hj').1 (by omega)
    have c1 := at_le b1 a3 hj
    have c2 := at_le b2 hj' a4
    exact ⟨by simp only; omega, by simp only; omega⟩
theorem wfold_spec (gs : List (Int × Int)) (n : Int) : ∀ (l : List (Int × Int)) (s : Int × Int),
    ((l.foldl (wstep gs n) s).1 ≤ s.1 ∧ ((l.foldl (wstep gs n) s).1 = s.1 ∨ ∃ g ∈ l, n ≤ (votesN g.1 gs : Int) ∧ (l.foldl (wstep gs n) s).1 = g.1) ∧ ∀ g ∈ l, okG g = true → n ≤ (votesN g.1 gs : Int) → (l.foldl (wstep gs n) s).1 ≤ g.1) ∧
    (s.2 ≤ (l.foldl (wstep gs n) s).2 ∧ ((l.foldl (wstep gs n) s).2 = s.2 ∨ ∃ g ∈ l, n ≤ (votesN g.2 gs : Int) ∧ (l.foldl (wstep gs n) s).2 = g.2) ∧ ∀ g ∈ l, okG g = true → n ≤ (votesN g.2 gs : Int) → g.2 ≤ (l.foldl (wstep gs n) s).2)
  | [], s => ⟨⟨Int.le_refl _, .inl rfl, fun g hg => by simp at hg⟩, ⟨Int.le_refl _, .inl rfl, fun g hg => by simp at hg⟩⟩
  | x :: l, s => by
    rw [List.foldl_cons]
    obtain ⟨⟨a1, a2, a3⟩, b1, b2, b3⟩ := wfold_spec gs n l (wstep gs n s x)
    generalize l.foldl (wstep gs n) (wstep gs n s x) = r at *
    have hw : ((wstep gs n s x).1 ≤ s.1 ∧ ((wstep gs n s x).1 = s.1 ∨ (n ≤ (votesN x.1 gs : Int) ∧ (wstep gs n s x).1 = x.1)) ∧ (okG x = true → n ≤ (votesN x.1 gs : Int) → (wstep gs n s x).1 ≤ x.1)) ∧ (s.2 ≤ (wstep gs n s x).2 ∧ ((wstep gs n s x).2 = s.2 ∨ (n ≤ (votesN x.2 gs : Int) ∧ (wstep gs n s x).2 = x.2)) ∧ (okG x = true → n ≤ (votesN x.2 gs : Int) → x.2 ≤ (wstep gs n s x).2)) := by
      unfold wstep
      by_cases h : okG x = true <;> by_cases h1 : n ≤ (votesN x.1 gs : Int) <;> by_cases h2 : n ≤ (votesN x.2 gs : Int) <;> simp [h, h1, h2] <;> omega
    obtain ⟨⟨c1, c2, c3⟩, d1, d2, d3⟩ := hw
    refine ⟨⟨by omega, ?_, fun g hg ho hv => ?_⟩, by omega, ?_, fun g hg ho hv => ?_⟩
    · rcases a2 with q | ⟨g, hg, h1, h2⟩
      · rcases c2 with q' | ⟨q1, q2⟩
        · left; omega
        · right; exact ⟨x, List.mem_cons_self .., q1, by omega⟩
      · right; exact ⟨g, List.mem_cons_of_mem _ hg, h1, h2⟩
    · rcases List.mem_cons.1 hg with e | e
      · subst e; have := c3 ho hv; omega
      · exact a3 g e ho hv
    · rcases b2 with q | ⟨g, hg, h1, h2⟩
      · rcases d2 with q' | ⟨q1, q2⟩
        · left; omega
        · right; exact ⟨x, List.mem_cons_self .., q1, by omega⟩
      · right; exact ⟨g, List.mem_cons_of_mem _ hg, h1, h2⟩
    · rcases List.mem_cons.1 hg with e | e
      · subst e; have := d3 ho hv; omega
      · exact b3 g e ho hv
/-- The document's. -/
theorem wfold_is {gs : List (Int × Int)} (hin : inGs gs) (f : Int) (hf : f < (validN gs : Int)) : IsFar gs ((validN gs : Int) - f) (wfold f gs, okG (wfold f gs)) := by
  obtain ⟨⟨a1, a2, a3⟩, b1, b2, b3⟩ := wfold_spec gs ((validN gs : Int) - f) gs (9223372036854775807, -9223372036854775808)
  have hr : gs.foldl (wstep gs ((validN gs : Int) - f)) (9223372036854775807, -9223372036854775808) = wfold f gs := rfl
  rw [hr] at a1 a2 a3 b1 b2 b3
  generalize wfold f gs = r at *
  generalize hn : (validN gs : Int) - f = n at *
  have hpos : 0 < n := by omega
  simp only at a1 a2 b1 b2
  have low : ∀ y, n ≤ (votesN y gs : Int) → r.1 ≤ y ∧ n ≤ (votesN r.1 gs : Int) := fun y hy => by
    obtain ⟨g, hg, ho, hle, hv⟩ := low_gap (gs := gs) (y := y) (by omega)
    have h1 := a3 g hg ho (by omega)
    refine ⟨by omega, ?_⟩
    rcases a2 with q | ⟨g', _, h2, h3⟩
    · have h4 := (hin g hg).1
      unfold in64 at h4
      have : r.1 = g.1 := by omega
      rw [this]; omega
    · rw [h3]; exact h2
  have up : ∀ y, n ≤ (votesN y gs : Int) → y ≤ r.2 ∧ n ≤ (votesN r.2 gs : Int) := fun y hy => by
    obtain ⟨g, hg, ho, hle, hv⟩ := up_gap (gs := gs) (y := y) (by omega)
    have h1 := b3 g hg ho (by omega)
    refine ⟨by omega, ?_⟩
    rcases b2 with q | ⟨g', _, h2, h3⟩
    · have h4 := (hin g hg).2
      unfold in64 at h4
      have : r.2 = g.2 := by omega
      rw [this]; omega
    · rw [h3]; exact h2
  have is : okG r = true ↔ ∃ y, n ≤ (votesN y gs : Int) := by
    constructor
    · intro h
      have h : r.1 ≤ r.2 := of_decide_eq_true h
      rcases a2 with q | ⟨g, _, h2, _⟩
      · rcases b2 with q' | ⟨g, _, h2, _⟩
        · omega
        · exact ⟨_, h2⟩
      · exact ⟨_, h2⟩
    · rintro ⟨y, hy⟩
      have h1 := (low y hy).1
      have h2 := (up y hy).1
      exact decide_eq_true (by omega)
  refine ⟨is, fun h => ?_, fun h => ?_, fun h y hy => ⟨(low y hy).1, (up y hy).1⟩⟩
  · obtain ⟨y, hy⟩ := is.1 h
    exact (low y hy).2
  · obtain ⟨y, hy⟩ := is.1 h
    exact (up y hy).2
theorem without_eq {gs : List (Int × Int)} (hin : inGs gs) (f : Int) : withoutP f gs = withoutR f gs := by
  unfold withoutP withoutR
  by_cases h : f < 0 ∨ (validN gs : Int) ≤ f
  · rw [if_pos h, if_pos h]
  · rw [if_neg h, if_neg h]
    obtain ⟨e1, e2⟩ := (outE_is gs f (by omega)).uniq (wfold_is hin f (by omega))
    simp only at e1 e2
    by_cases q : (outE f gs).2 = true
    · rw [if_pos q, if_pos (by rw [← e1]; exact q), e2 q]
    · rw [if_neg q, if_neg (by rw [← e1]; exact q)]
end Go.Proofs.Ytefidbifgilekaa
/- SweepAnswers, by conditions. -/
namespace Go.Proofs.Ytefidbifgilekaa
set_option linter.unusedSimpArgs false
set_option linter.unusedVariables false
open Go.RowKit
set_option maxRecDepth 100000
abbrev l3 : List (Int × Int) := [(0, 5), (3, 9), (4, 4)]
theorem in_l3 : inGs l3 := fun g hg => by
  simp only [l3, List.mem_cons, List.not_mem_nil, or_false] at hg
  rcases hg with rfl | rfl | rfl <;> exact ⟨⟨by decide, by decide⟩, ⟨by decide, by decide⟩⟩
theorem lend_b {P : Program} {g : FuncId} {L : List AObj} {n i s : Nat} {rows : List (List D)} {x : D} {r : AV} (h : Sat P g [.d x, .d (.sl s rows)] [] r []) (hi : L[i]? = some (.sl s rows)) (hr : flatA r = true) : CallOK P g [.d x, .own i] L n ⟨[i], [], []⟩ r :=
  h.lend (ids := [i]) ⟨rfl, [], rfl, hi, rfl⟩ hr fun j hj => by
    rw [List.mem_singleton.1 hj]; exact ⟨_, hi, rfl⟩
theorem alive17_sat : Sat Try.prog 24 [] [] (bA true) [] := by
  have b1 : Sat Try.prog 25 [.d (.sl 2 (l3.map gR))] [] (.tup [gA (4, 4), iA 3]) [] := by
    have b1 := bestP_sat l3 (by decide)
    rw [bestP_eq in_l3, show bestR l3 = ((4, 4), 3) by decide] at b1
    exact b1
  have w1 : Sat Try.prog 28 [iA 1, .d (.sl 2 (l3.map gR))] [] (.tup [gA (3, 5), bA true]) [] := by
    have w1 := withoutP_sat 1 l3 (by decide)
    rw [without_eq in_l3, show withoutR 1 l3 = ((3, 5), true) by decide] at w1
    exact w1
  have w3 : Sat Try.prog 28 [iA 3, .d (.sl 2 (l3.map gR))] [] (.tup [gA (0, 0), bA false]) [] := by
    have w3 := withoutP_sat 3 l3 (by decide)
    rw [without_eq in_l3, show withoutR 3 l3 = ((0, 0), false) by decide] at w3
    exact w3
  have v1 := votesP_sat 3 l3 (by decide)
  rw [show votesN 3 l3 = 2 by decide] at v1
  have a1 := agree_sat l3 (by decide)
  rw [show agreeB l3 = true by decide] at a1
  have a2 := agree_sat [(1, 2), (3, 4)] (by decide)
  rw [show agreeB [(1, 2), (3, 4)] = false by decide] at a2
  refine sat_of_vc (T := tiOf Try.prog) (E := E0) Try.func24 rfl rfl hE0 hm0 rfl ?_
  conv => whnf
  repeat (any_goals (first
    | exact True.intro
    | (refine Or.inl ?_; conv => whnf)
    | (refine And.intro (fun _ => ?_) tf; conv => whnf)
    | (refine And.intro ft (fun _ => ?_); conv => whnf)
    | (refine And.intro (by kernel_rfl) ?_; conv => whnf)
    | (refine And.intro (by decide) ?_; conv => whnf)
    | (refine And.intro (fun _ => ?_) (fun h => absurd h (by decide)); conv => whnf)
    | (refine And.intro (fun h => absurd h (by decide)) (fun _ => ?_); conv => whnf)
    | (refine And.intro (fun _ => ?_) (fun _ => ?_) <;> conv => whnf)
    | (refine ⟨_, _, lendO b1 rfl rfl, ?_⟩; conv => whnf)
    | (refine ⟨_, _, lend_b w1 rfl rfl, ?_⟩; conv => whnf)
    | (refine ⟨_, _, lend_b w3 rfl rfl, ?_⟩; conv => whnf)
    | (refine ⟨_, _, lend_b v1 rfl rfl, ?_⟩; conv => whnf)
    | (refine ⟨_, _, lendO a1 rfl rfl, ?_⟩; conv => whnf)
    | (refine ⟨_, _, lendO a2 rfl rfl, ?_⟩; conv => whnf)
    | (refine ⟨_, _, eqS (by kernel_rfl), ?_⟩; conv => whnf)))
  all_goals refine ⟨[], ?_⟩
  repeat (any_goals (first | exact True.intro | exact rfl | with_reducible_and_instances rfl | exact (by kernel_rfl) | refine And.intro ?_ ?_))
  all_goals conv => whnf
theorem of17_sat (gs : List (Int × Int)) (hn : gs.length ≤ 1000) : Sat Try.prog 27 [.d (.sl 2 (gs.map gR))] [] (.own 0) [.sl 2 (gs.map gR)] := by
  have hm : (gs.map gR).length = gs.length := List.length_map _
  refine sat_of_vc (T := tiOf Try.prog) (E := E0) Try.func27 rfl rfl hE0 hm0 rfl ?_
  conv => whnf
  repeat (any_goals (first
    | exact True.intro
    | (refine Or.inl ?_; conv => whnf)
    | (refine And.intro (fun _ => ?_) tf; conv => whnf)
    | (refine And.intro ft (fun _ => ?_); conv => whnf)
    | (refine And.intro (by kernel_rfl) ?_; conv => whnf)
    | (refine And.intro (by decide) ?_; conv => whnf)
    | (refine And.intro (fun _ => ?_) (fun h => absurd h (by decide)); conv => whnf)
    | (refine And.intro (fun h => absurd h (by decide)) (fun _ => ?_); conv => whnf)
    | (refine And.intro (fun _ => ?_) (fun _ => ?_) <;> conv => whnf)))
  refine ⟨Nat, fun k => k ≤ gs.length, fun k => ([(4, iA k), (3, .own 0), (0, .d (.sl 2 (gs.map gR)))], [.sl 2 ((gs.take k).map gR)]), fun k => gs.length - k, ⟨0, Nat.zero_le _, ?_⟩, ?_⟩
  · all_goals refine ⟨[], ?_⟩
    repeat (any_goals (first | exact True.intro | exact rfl | with_reducible_and_instances rfl | exact (by kernel_rfl) | refine And.intro ?_ ?_))
    all_goals conv => whnf
  intro k hk
  conv => whnf
  by_cases hlt : k < gs.length
  · have hx : gs[k]? = some gs[k] := List.getElem?_eq_getElem hlt
    generalize gs[k] = g at hx
    repeat (any_goals (first
      | exact True.intro
      | (refine Or.inl ?_; conv => whnf)
      | (refine And.intro (fun _ => ?_) tf; conv => whnf)
      | (refine And.intro ft (fun _ => ?_); conv => whnf)
      | (refine And.intro (by kernel_rfl) ?_; conv => whnf)
      | (refine And.intro (by decide) ?_; conv => whnf)
      | (refine And.intro (fun _ => ?_) (fun h => absurd h (by decide)); conv => whnf)
      | (refine And.intro (fun h => absurd h (by decide)) (fun _ => ?_); conv => whnf)
      | (refine ⟨k, _, rfl, map_get hx, ?_⟩; conv => whnf)
      | (refine And.intro (fun _ => ?_) (fun _ => ?_) <;> conv => whnf)
      | (refine ⟨_, _, ap 2 16 (by kernel_rfl) rfl rfl (by simp; omega), ?_⟩; conv => whnf)))
    all_goals try (exfalso; simp only [decide_eq_true_eq, decide_eq_false_iff_not, Bool.not_eq_true', Bool.not_eq_false', Bool.not_eq_true, Bool.not_eq_false, beq_iff_eq, bne_iff_ne, beq_eq_false_iff_ne, bne_eq_false_iff_eq, ne_eq, Decidable.not_not] at *; first | omega | contradiction | (simp_all; done) | (simp_all; omega))
    refine ⟨k + 1, hlt, show gs.length - (k + 1) < gs.length - k by omega, ?_⟩
    all_goals refine ⟨[(0, 2)], ?_⟩
    repeat (any_goals (first | exact True.intro | exact rfl | with_reducible_and_instances rfl | exact (by kernel_rfl) | refine And.intro ?_ ?_))
    all_goals conv => whnf
    · exact wk1 (by omega)
    · rw [map_take_succ hx]
  · have hke : k = gs.length := by omega
    subst hke
    repeat (any_goals (first
      | exact True.intro
      | (refine Or.inl ?_; conv => whnf)
      | (refine And.intro (fun _ => ?_) tf; conv => whnf)
      | (refine And.intro ft (fun _ => ?_); conv => whnf)
      | (refine And.intro (by kernel_rfl) ?_; conv => whnf)
      | (refine And.intro (by decide) ?_; conv => whnf)
      | (refine And.intro (fun _ => ?_) (fun h => absurd h (by decide)); conv => whnf)
      | (refine And.intro (fun h => absurd h (by decide)) (fun _ => ?_); conv => whnf)
      | (refine And.intro (fun _ => ?_) (fun _ => ?_) <;> conv => whnf)))
    all_goals try (exfalso; simp only [decide_eq_true_eq, decide_eq_false_iff_not, Bool.not_eq_true', Bool.not_eq_false', Bool.not_eq_true, Bool.not_eq_false, beq_iff_eq, bne_iff_ne, beq_eq_false_iff_ne, bne_eq_false_iff_eq, ne_eq, Decidable.not_not] at *; first | omega | contradiction | (simp_all; done) | (simp_all; omega))
    all_goals refine ⟨[], ?_⟩
    repeat (any_goals (first | exact True.intro | exact rfl | with_reducible_and_instances rfl | exact (by kernel_rfl) | refine And.intro ?_ ?_))
    all_goals conv => whnf
    rw [List.take_length]
theorem answers_sat (gs : List (Int × Int)) (x f : Int) (hin : inGs gs) : Sat Try.prog 6 [.d (.sl 2 (gs.map gR)), iA x, iA f] [] (bA true) [] := by
  have hm : (gs.map gR).length = gs.length := List.length_map _
  by_cases h100 : 100 < gs.length
  · refine sat_of_vc (T := tiOf Try.prog) (E := E0) Try.func6 rfl rfl hE0 hm0 rfl ?_
    conv => whnf
    repeat (any_goals (first
      | exact True.intro
      | (refine Or.inl ?_; conv => whnf)
      | (refine And.intro (fun _ => ?_) tf; conv => whnf)
      | (refine And.intro ft (fun _ => ?_); conv => whnf)
      | (refine And.intro (by kernel_rfl) ?_; conv => whnf)
      | (refine And.intro (by decide) ?_; conv => whnf)
      | (refine And.intro (fun _ => ?_) (fun h => absurd h (by decide)); conv => whnf)
      | (refine And.intro (fun h => absurd h (by decide)) (fun _ => ?_); conv => whnf)
      | (refine And.intro (fun _ => ?_) (fun _ => ?_) <;> conv => whnf)
      | (refine ⟨_, _, alive17_sat.pu rfl rfl, ?_⟩; conv => whnf)))
    all_goals try (exfalso; simp only [decide_eq_true_eq, decide_eq_false_iff_not, Bool.not_eq_true', Bool.not_eq_false', Bool.not_eq_true, Bool.not_eq_false, beq_iff_eq, bne_iff_ne, beq_eq_false_iff_ne, bne_eq_false_iff_eq, ne_eq, Decidable.not_not] at *; first | omega | contradiction | (simp_all; done) | (simp_all; omega))
    all_goals refine ⟨[], ?_⟩
    repeat (any_goals (first | exact True.intro | exact rfl | with_reducible_and_instances rfl | exact (by kernel_rfl) | refine And.intro ?_ ?_))
    all_goals conv => whnf
  have b1 := bestP_sat gs (by omega)
  rw [bestP_eq hin] at b1
  have b2 := best_sat gs (by omega)
  have w1 := withoutP_sat f gs (by omega)
  rw [without_eq hin] at w1
  have w2 := withoutR_sat f gs (by omega)
  have v1 := votesP_sat x gs (by omega)
  have v2 := votes_sat x gs (by omega)
  have a1 := agree_sat gs (by omega)
  rw [← agree_same gs fun g hg => (hin g hg).1] at a1
  have a2 := refAgree_sat gs (by omega)
  generalize bestR gs = B at *
  generalize withoutR f gs = W at *
  refine sat_of_vc (T := tiOf Try.prog) (E := E0) Try.func6 rfl rfl hE0 hm0 rfl ?_
  conv => whnf
  repeat (any_goals (first
    | exact True.intro
    | (refine Or.inl ?_; conv => whnf)
    | (refine And.intro (fun _ => ?_) tf; conv => whnf)
    | (refine And.intro ft (fun _ => ?_); conv => whnf)
    | (refine And.intro (by kernel_rfl) ?_; conv => whnf)
    | (refine And.intro (by decide) ?_; conv => whnf)
    | (refine And.intro (fun _ => ?_) (fun h => absurd h (by decide)); conv => whnf)
    | (refine And.intro (fun h => absurd h (by decide)) (fun _ => ?_); conv => whnf)
    | (refine And.intro (fun _ => ?_) (fun _ => ?_) <;> conv => whnf)
    | (refine ⟨_, _, alive17_sat.pu rfl rfl, ?_⟩; conv => whnf)
    | (refine ⟨_, _, lendO b1 rfl rfl, ?_⟩; conv => whnf)
    | (refine ⟨_, _, lendO b2 rfl rfl, ?_⟩; conv => whnf)
    | (refine ⟨_, _, lend_b w1 rfl rfl, ?_⟩; conv => whnf)
    | (refine ⟨_, _, lend_b w2 rfl rfl, ?_⟩; conv => whnf)
    | (refine ⟨_, _, (of17_sat gs (by omega)).nw rfl, ?_⟩; conv => whnf)
    | (refine ⟨_, _, apd 2 16 (by kernel_rfl) rfl (by simp; omega), ?_⟩; conv => whnf)))
  · all_goals try (exfalso; simp only [decide_eq_true_eq, decide_eq_false_iff_not, Bool.not_eq_true', Bool.not_eq_false', Bool.not_eq_true, Bool.not_eq_false, beq_iff_eq, bne_iff_ne, beq_eq_false_iff_ne, bne_eq_false_iff_eq, ne_eq, Decidable.not_not] at *; first | omega | contradiction | (simp_all; done) | (simp_all; omega))
    all_goals refine ⟨[], ?_⟩
    repeat (any_goals (first | exact True.intro | exact rfl | with_reducible_and_instances rfl | exact (by kernel_rfl) | refine And.intro ?_ ?_))
    all_goals conv => whnf
  refine ⟨Nat, fun k => k ≤ gs.length, fun k => ([(16, iA k), (7, .own 1), (8, .ptr 2 0), (9, iA B.2), (10, .ptr 4 0), (11, iA B.2), (12, .ptr 5 0), (13, bA W.2), (14, .ptr 7 0), (15, bA W.2), (0, .d (.sl 2 (gs.map gR))), (1, iA x)], [.dead, .sl 2 (gs.map gR), .cells [iA B.1.1, iA B.1.2], .dead, .cells [iA B.1.1, iA B.1.2], .cells [iA W.1.1, iA W.1.2], .dead, .cells [iA W.1.1, iA W.1.2]]), fun k => gs.length - k, ⟨0, Nat.zero_le _, ?_⟩, ?_⟩
  · all_goals refine ⟨[], ?_⟩
    repeat (any_goals (first | exact True.intro | exact rfl | with_reducible_and_instances rfl | exact (by kernel_rfl) | refine And.intro ?_ ?_))
    all_goals conv => whnf
  intro k hk
  conv => whnf
  by_cases hlt : k < gs.length
  · have hx : gs[k]? = some gs[k] := List.getElem?_eq_getElem hlt
    generalize gs[k] = g at hx
    repeat (any_goals (first
      | exact True.intro
      | (refine Or.inl ?_; conv => whnf)
      | (refine And.intro (fun _ => ?_) tf; conv => whnf)
      | (refine And.intro ft (fun _ => ?_); conv => whnf)
      | (refine And.intro (by kernel_rfl) ?_; conv => whnf)
      | (refine And.intro (by decide) ?_; conv => whnf)
      | (refine And.intro (fun _ => ?_) (fun h => absurd h (by decide)); conv => whnf)
      | (refine And.intro (fun h => absurd h (by decide)) (fun _ => ?_); conv => whnf)
      | (refine ⟨k, rfl, by simpa using hlt, ?_⟩; conv => whnf)
      | (refine ⟨_, map_get hx, ?_⟩; conv => whnf)
      | (refine ⟨k, _, rfl, map_get hx, ?_⟩; conv => whnf)
      | (refine And.intro (fun _ => ?_) (fun _ => ?_) <;> conv => whnf)
      | (refine ⟨_, _, neS (by kernel_rfl), ?_⟩; conv => whnf)))
    all_goals try (exfalso; simp only [decide_eq_true_eq, decide_eq_false_iff_not, Bool.not_eq_true', Bool.not_eq_false', Bool.not_eq_true, Bool.not_eq_false, beq_iff_eq, bne_iff_ne, beq_eq_false_iff_ne, bne_eq_false_iff_eq, ne_eq, Decidable.not_not] at *; first | omega | contradiction | (simp_all; done) | (simp_all; omega))
    refine ⟨k + 1, hlt, show gs.length - (k + 1) < gs.length - k by omega, ?_⟩
    all_goals refine ⟨[], ?_⟩
    repeat (any_goals (first | exact True.intro | exact rfl | with_reducible_and_instances rfl | exact (by kernel_rfl) | refine And.intro ?_ ?_))
    all_goals conv => whnf
    exact wk1 (by omega)
  · have hke : k = gs.length := by omega
    subst hke
    repeat (any_goals (first
      | exact True.intro
      | (refine Or.inl ?_; conv => whnf)
      | (refine And.intro (fun _ => ?_) tf; conv => whnf)
      | (refine And.intro ft (fun _ => ?_); conv => whnf)
      | (refine And.intro (by kernel_rfl) ?_; conv => whnf)
      | (refine And.intro (by decide) ?_; conv => whnf)
      | (refine And.intro (fun _ => ?_) (fun h => absurd h (by decide)); conv => whnf)
      | (refine And.intro (fun h => absurd h (by decide)) (fun _ => ?_); conv => whnf)
      | (refine And.intro (fun _ => ?_) (fun _ => ?_) <;> conv => whnf)
      | (refine ⟨_, _, v1.pu rfl rfl, ?_⟩; conv => whnf)
      | (refine ⟨_, _, v2.pu rfl rfl, ?_⟩; conv => whnf)
      | (refine ⟨_, _, a1.pu rfl rfl, ?_⟩; conv => whnf)
      | (refine ⟨_, _, a2.pu rfl rfl, ?_⟩; conv => whnf)
      | (refine ⟨_, _, (of17_sat gs (by omega)).nw rfl, ?_⟩; conv => whnf)
      | (refine ⟨_, _, lend_b v2 rfl rfl, ?_⟩; conv => whnf)
      | (refine ⟨_, _, lendO a2 rfl rfl, ?_⟩; conv => whnf)
      | (refine ⟨_, _, eqB (by kernel_rfl), ?_⟩; conv => whnf)))
    all_goals try (exfalso; simp only [decide_eq_true_eq, decide_eq_false_iff_not, Bool.not_eq_true', Bool.not_eq_false', Bool.not_eq_true, Bool.not_eq_false, beq_iff_eq, bne_iff_ne, beq_eq_false_iff_ne, bne_eq_false_iff_eq, ne_eq, Decidable.not_not] at *; first | omega | contradiction | (simp_all; done) | (simp_all; omega))
    have he : (agreeRef gs == agreeRef gs) = true := by simp
    rw [he]
    all_goals refine ⟨[], ?_⟩
    repeat (any_goals (first | exact True.intro | exact rfl | with_reducible_and_instances rfl | exact (by kernel_rfl) | refine And.intro ?_ ?_))
    all_goals conv => whnf
theorem ty_gaps {x : D} (h : TyV Try.prog 62 x) : ∃ l : List (Int × Int), x = .sl 2 (l.map gR) ∧ inGs l ∧ l.length * 16 ≤ reachBytes := by
  obtain ⟨rows, rfl, h2, h3⟩ := ty_slice h Try.underlying62
  obtain ⟨l, rfl, hl⟩ := rows_map (f := gR) (p := fun g => in64 g.1 ∧ in64 g.2) fun r hr => by
    obtain ⟨zs, h1, rfl, h3⟩ := ty_ints (n := 2) (h2 r hr) (by kernel_rfl)
    match zs, h1, h3 with
    | [a, b], _, h3 => exact ⟨(a, b), rfl, h3 a (by simp), h3 b (by simp)⟩
  refine ⟨l, ?_, hl, ?_⟩
  · rw [show Try.prog.cellsOf 64 = 2 by kernel_rfl]
  · rw [show Try.prog.bytesOf 64 = 16 by kernel_rfl, List.length_map] at h3; exact h3
theorem answers_law (H : Type) (enc : TypeId × Value → H) : LawWalk H enc Try.prog 6 Try.f6 :=
  lawWalk_of_sat (by kernel_rfl) fun args h => by
    obtain ⟨l, _, rfl, h1, h⟩ := h
    obtain ⟨a, _, rfl, h2, h⟩ := h
    obtain ⟨b, _, rfl, h3, h⟩ := h
    obtain rfl := h
    obtain ⟨gs, rfl, hin, _⟩ := ty_gaps h1
    obtain ⟨a, rfl, ha⟩ := ty_i64 h2 Try.underlying2
    obtain ⟨b, rfl, hb⟩ := ty_int h3 Try.underlying3
    exact answers_sat gs a b hin
end Go.Proofs.Ytefidbifgilekaa
/- SweepMost, by conditions. -/
namespace Go.Proofs.Ytefidbifgilekaa
set_option linter.unusedSimpArgs false
set_option linter.unusedVariables false
open Go.RowKit
set_option maxRecDepth 100000
theorem hstep_le (x : Int) : ∀ (gs : List (Int × Int)) (h : Int), gs.foldl (hstep x) h ≤ h ∧ ∀ g ∈ gs, hasG x g = true → gs.foldl (hstep x) h ≤ g.2
  | [], h => ⟨Int.le_refl _, fun g hg => by simp at hg⟩
  | y :: gs, h => by
    rw [List.foldl_cons]
    obtain ⟨h1, h2⟩ := hstep_le x gs (hstep x h y)
    have h3 : hstep x h y ≤ h ∧ (hasG x y = true → hstep x h y ≤ y.2) := by
      unfold hstep
      split
      · exact ⟨by omega, fun _ => by omega⟩
      · rename_i q; exact ⟨Int.le_refl _, fun r => absurd r q⟩
    refine ⟨by omega, fun g hg q => ?_⟩
    rcases List.mem_cons.1 hg with e | e
    · subst e; have := h3.2 q; omega
    · exact h2 g e q
theorem best_all {gs : List (Int × Int)} {m : Nat} {x y : Int} (h : IsBest gs m x) (hm : 0 < m) (h1 : x ≤ y) (h2 : y ≤ bestH x gs) : votesN y gs = m := by
  have h3 := h.most y
  have h4 : votesN x gs ≤ votesN y gs := by
    unfold votesN
    refine List.countP_mono_left fun g hg hx => ?_
    have h5 := (hstep_le x gs 9223372036854775807).2 g hg hx
    have hx := of_decide_eq_true hx
    have : bestH x gs ≤ g.2 := h5
    exact decide_eq_true (by omega)
  have := h.at_ hm
  omega
theorem bestR_is {gs : List (Int × Int)} (h : 0 < (bestR gs).2) : IsBest gs (bestR gs).2 (bestR gs).1.1 ∧ (bestR gs).1.2 = bestH (bestR gs).1.1 gs := by
  have hb := bestS_is gs
  unfold bestR at h ⊢
  split at h
  · exact absurd h (by simp)
  · rename_i q
    rw [if_neg q]
    exact ⟨hb, rfl⟩
theorem agree_meet {gs : List (Int × Int)} (hin : inGs gs) (h : agreeB gs = true) : 0 < (bestR gs).2 ∧ meetR gs = ((bestR gs).1, 0) := by
  rw [← agree_same gs fun g hg => (hin g hg).1] at h
  unfold agreeRef at h
  rw [Bool.and_eq_true, decide_eq_true_eq, decide_eq_true_eq] at h
  have hp : 0 < (bestR gs).2 := by omega
  obtain ⟨hb, hh⟩ := bestR_is hp
  have hv := hb.at_ hp
  have hall := votes_all.1 (hv.trans h.2)
  have hf : gs.filter (hasG (bestR gs).1.1) = gs := List.filter_eq_self.2 fun g hg => decide_eq_true (hall g hg)
  have hm := (meet_best hin hb hp).1
  rw [hf] at hm
  exact ⟨hp, by rw [hm, ← hh]⟩
theorem most_sat (gs : List (Int × Int)) (x : Int) (hin : inGs gs) : Sat Try.prog 9 [.d (.sl 2 (gs.map gR)), iA x] [] (bA true) [] := by
  have hm : (gs.map gR).length = gs.length := List.length_map _
  by_cases h100 : 100 < gs.length
  · refine sat_of_vc (T := tiOf Try.prog) (E := E0) Try.func9 rfl rfl hE0 hm0 rfl ?_
    conv => whnf
    repeat (any_goals (first
      | exact True.intro
      | (refine Or.inl ?_; conv => whnf)
      | (refine And.intro (fun _ => ?_) tf; conv => whnf)
      | (refine And.intro ft (fun _ => ?_); conv => whnf)
      | (refine And.intro (by kernel_rfl) ?_; conv => whnf)
      | (refine And.intro (by decide) ?_; conv => whnf)
      | (refine And.intro (fun _ => ?_) (fun h => absurd h (by decide)); conv => whnf)
      | (refine And.intro (fun h => absurd h (by decide)) (fun _ => ?_); conv => whnf)
      | (refine And.intro (fun _ => ?_) (fun _ => ?_) <;> conv => whnf)
      | (refine ⟨_, _, alive17_sat.pu rfl rfl, ?_⟩; conv => whnf)))
    all_goals try (exfalso; simp only [decide_eq_true_eq, decide_eq_false_iff_not, Bool.not_eq_true', Bool.not_eq_false', Bool.not_eq_true, Bool.not_eq_false, beq_iff_eq, bne_iff_ne, beq_eq_false_iff_ne, bne_eq_false_iff_eq, ne_eq, Decidable.not_not] at *; first | omega | contradiction | (simp_all; done) | (simp_all; omega))
    all_goals refine ⟨[], ?_⟩
    repeat (any_goals (first | exact True.intro | exact rfl | with_reducible_and_instances rfl | exact (by kernel_rfl) | refine And.intro ?_ ?_))
    all_goals conv => whnf
  have b1 := bestP_sat gs (by omega)
  rw [bestP_eq hin] at b1
  have vx := votesP_sat x gs (by omega)
  by_cases h0 : (bestR gs).2 = 0
  · have hr : bestR gs = ((0, 0), 0) := by
      have hb := bestS_is gs
      unfold bestR at h0 ⊢
      split
      · rfl
      · rename_i q
        rw [if_neg q] at h0
        exact absurd h0 q
    have b2 : Sat Try.prog 25 [.d (.sl 2 (gs.map gR))] [] (.tup [gA (0, 0), iA 0]) [] := by rw [hr] at b1; exact b1
    have hv : votesN x gs = 0 := by
      have hb := bestS_is gs
      have : (bestS gs).1 = 0 := by
        unfold bestR at h0
        split at h0
        · assumption
        · exact h0
      have := hb.most x
      omega
    rw [hv] at vx
    clear b1
    refine sat_of_vc (T := tiOf Try.prog) (E := E0) Try.func9 rfl rfl hE0 hm0 rfl ?_
    conv => whnf
    repeat (any_goals (first
      | exact True.intro
      | (refine Or.inl ?_; conv => whnf)
      | (refine And.intro (fun _ => ?_) tf; conv => whnf)
      | (refine And.intro ft (fun _ => ?_); conv => whnf)
      | (refine And.intro (by kernel_rfl) ?_; conv => whnf)
      | (refine And.intro (by decide) ?_; conv => whnf)
      | (refine And.intro (fun _ => ?_) (fun h => absurd h (by decide)); conv => whnf)
      | (refine And.intro (fun h => absurd h (by decide)) (fun _ => ?_); conv => whnf)
      | (refine And.intro (fun _ => ?_) (fun _ => ?_) <;> conv => whnf)
      | (refine ⟨_, _, alive17_sat.pu rfl rfl, ?_⟩; conv => whnf)
      | (refine ⟨_, _, b2.pu rfl rfl, ?_⟩; conv => whnf)
      | (refine ⟨_, _, vx.pu rfl rfl, ?_⟩; conv => whnf)
      | (refine ⟨_, _, eqS (by kernel_rfl), ?_⟩; conv => whnf)))
    all_goals try (exfalso; simp only [decide_eq_true_eq, decide_eq_false_iff_not, Bool.not_eq_true', Bool.not_eq_false', Bool.not_eq_true, Bool.not_eq_false, beq_iff_eq, bne_iff_ne, beq_eq_false_iff_ne, bne_eq_false_iff_eq, ne_eq, Decidable.not_not] at *; first | omega | contradiction | (simp_all; done) | (simp_all; omega))
    all_goals refine ⟨[], ?_⟩
    repeat (any_goals (first | exact True.intro | exact rfl | with_reducible_and_instances rfl | exact (by kernel_rfl) | refine And.intro ?_ ?_))
    all_goals conv => whnf
  have hp : 0 < (bestR gs).2 := by omega
  obtain ⟨hb, hh⟩ := bestR_is hp
  obtain ⟨hmb, hle, hin1⟩ := meet_best hin hb hp
  have hag := fun h => agree_meet hin h
  have a1 := agree_sat gs (by omega)
  have m1 := meet_sat gs (by omega)
  have hmax := (hstep_le (bestR gs).1.1 gs 9223372036854775807).1
  have hmax : bestH (bestR gs).1.1 gs ≤ 9223372036854775807 := hmax
  generalize (bestR gs).2 = m at *
  generalize (bestR gs).1 = g at *
  obtain ⟨lo, hi⟩ := g
  simp only at b1 hb hh hmb hle hin1 hag hmax
  subst hh
  have hi64 : in64 (bestH lo gs) := ⟨by have := hin1.1; omega, hmax⟩
  have mid := mid_floor (lo, bestH lo gs) hin1 hi64
  have hok : okG (lo, bestH lo gs) = true := decide_eq_true hle
  rw [if_pos hok] at mid
  simp only at mid
  have ms := mid_sat (lo, bestH lo gs)
  rw [mid] at ms
  have v1 := votesP_sat lo gs (by omega)
  rw [best_all hb hp (Int.le_refl _) hle] at v1
  have v2 := votesP_sat (bestH lo gs) gs (by omega)
  rw [best_all hb hp hle (Int.le_refl _)] at v2
  have v3 := votesP_sat ((lo + bestH lo gs) / 2) gs (by omega)
  rw [best_all hb hp (by omega) (by omega)] at v3
  have hmost := hb.most x
  have hin2 : lo ≤ x ∧ x ≤ bestH lo gs → votesN x gs = m := fun h => best_all hb hp h.1 h.2
  have hlow : votesN x gs = m → lo ≤ x := fun h => hb.least hp x h
  have gr := gapRight_sat (lo, bestH lo gs)
  rw [hok] at gr
  have gh := gapHas_sat (lo, bestH lo gs) x
  generalize bestH lo gs = hi at *
  generalize votesN x gs = v at *
  generalize hag' : agreeB gs = ag at *
  have hdef : ag = (decide (0 < gs.length) && decide ((meetR gs).2 = 0)) := by rw [← hag']; rfl
  generalize meetR gs = M at *
  have hx3 : (v = m → lo ≤ x) ∧ (v ≠ m → hasG x (lo, hi) = false) := ⟨hlow, fun h => decide_eq_false fun q => h (hin2 q)⟩
  have hlen : 0 < gs.length := by
    have := votes_le lo gs
    have := hb.at_ hp
    omega
  refine sat_of_vc (T := tiOf Try.prog) (E := E0) Try.func9 rfl rfl hE0 hm0 rfl ?_
  conv => whnf
  repeat (any_goals (first
    | exact True.intro
    | (refine And.intro (fun _ => ?_) tf; conv => whnf)
    | (refine And.intro ft (fun _ => ?_); conv => whnf)
    | (refine And.intro (by kernel_rfl) ?_; conv => whnf)
    | (refine And.intro (by decide) ?_; conv => whnf)
    | (refine And.intro (fun _ => ?_) (fun h => absurd h (by decide)); conv => whnf)
    | (refine And.intro (fun h => absurd h (by decide)) (fun _ => ?_); conv => whnf)
    | (refine And.intro (fun _ => ?_) (fun _ => ?_) <;> conv => whnf)
    | (refine ⟨_, _, alive17_sat.pu rfl rfl, ?_⟩; conv => whnf)
    | (refine ⟨_, _, b1.pu rfl rfl, ?_⟩; conv => whnf)
    | (refine ⟨_, _, vx.pu rfl rfl, ?_⟩; conv => whnf)
    | (refine ⟨_, _, gr.pu rfl rfl, ?_⟩; conv => whnf)
    | (refine ⟨_, _, v1.pu rfl rfl, ?_⟩; conv => whnf)
    | (refine ⟨_, _, v2.pu rfl rfl, ?_⟩; conv => whnf)
    | (refine ⟨_, _, ms.pu rfl rfl, ?_⟩; conv => whnf)
    | (refine ⟨_, _, v3.pu rfl rfl, ?_⟩; conv => whnf)
    | (refine ⟨_, _, gh.pu rfl rfl, ?_⟩; conv => whnf)
    | (refine ⟨_, _, m1.pu rfl rfl, ?_⟩; conv => whnf)
    | (refine ⟨_, _, a1.pu rfl rfl, ?_⟩; conv => whnf)
    | (refine ⟨_, _, eqS (by kernel_rfl), ?_⟩; conv => whnf)
    | (refine ⟨_, _, eqB (by kernel_rfl), ?_⟩; conv => whnf)))
  all_goals try (exfalso; simp only [decide_eq_true_eq, decide_eq_false_iff_not, Bool.not_eq_true', Bool.not_eq_false', Bool.not_eq_true, Bool.not_eq_false, beq_iff_eq, bne_iff_ne, beq_eq_false_iff_ne, bne_eq_false_iff_eq, ne_eq, Decidable.not_not] at *; first | omega | contradiction | (simp_all; done) | (simp_all; omega))
  all_goals try (refine Or.inl ?_; conv => whnf)
  repeat (any_goals (first
    | exact True.intro
    | (refine And.intro (fun _ => ?_) tf; conv => whnf)
    | (refine And.intro ft (fun _ => ?_); conv => whnf)
    | (refine And.intro (by kernel_rfl) ?_; conv => whnf)
    | (refine And.intro (by decide) ?_; conv => whnf)
    | (refine And.intro (fun _ => ?_) (fun h => absurd h (by decide)); conv => whnf)
    | (refine And.intro (fun h => absurd h (by decide)) (fun _ => ?_); conv => whnf)
    | (refine And.intro (fun _ => ?_) (fun _ => ?_) <;> conv => whnf)
    | (refine ⟨_, _, alive17_sat.pu rfl rfl, ?_⟩; conv => whnf)
    | (refine ⟨_, _, b1.pu rfl rfl, ?_⟩; conv => whnf)
    | (refine ⟨_, _, vx.pu rfl rfl, ?_⟩; conv => whnf)
    | (refine ⟨_, _, gr.pu rfl rfl, ?_⟩; conv => whnf)
    | (refine ⟨_, _, v1.pu rfl rfl, ?_⟩; conv => whnf)
    | (refine ⟨_, _, v2.pu rfl rfl, ?_⟩; conv => whnf)
    | (refine ⟨_, _, ms.pu rfl rfl, ?_⟩; conv => whnf)
    | (refine ⟨_, _, v3.pu rfl rfl, ?_⟩; conv => whnf)
    | (refine ⟨_, _, gh.pu rfl rfl, ?_⟩; conv => whnf)
    | (refine ⟨_, _, m1.pu rfl rfl, ?_⟩; conv => whnf)
    | (refine ⟨_, _, a1.pu rfl rfl, ?_⟩; conv => whnf)
    | (refine ⟨_, _, eqS (by kernel_rfl), ?_⟩; conv => whnf)
    | (refine ⟨_, _, eqB (by kernel_rfl), ?_⟩; conv => whnf)))
  all_goals try (exfalso; simp only [decide_eq_true_eq, decide_eq_false_iff_not, Bool.not_eq_true', Bool.not_eq_false', Bool.not_eq_true, Bool.not_eq_false, beq_iff_eq, bne_iff_ne, beq_eq_false_iff_ne, bne_eq_false_iff_eq, ne_eq, Decidable.not_not] at *; first | omega | contradiction | (simp_all; done) | (simp_all; omega))
  all_goals try (refine Or.inl ?_; conv => whnf)
  repeat (any_goals (first
    | exact True.intro
    | (refine And.intro (fun _ => ?_) tf; conv => whnf)
    | (refine And.intro ft (fun _ => ?_); conv => whnf)
    | (refine And.intro (by kernel_rfl) ?_; conv => whnf)
    | (refine And.intro (by decide) ?_; conv => whnf)
    | (refine And.intro (fun _ => ?_) (fun h => absurd h (by decide)); conv => whnf)
    | (refine And.intro (fun h => absurd h (by decide)) (fun _ => ?_); conv => whnf)
    | (refine And.intro (fun _ => ?_) (fun _ => ?_) <;> conv => whnf)
    | (refine ⟨_, _, alive17_sat.pu rfl rfl, ?_⟩; conv => whnf)
    | (refine ⟨_, _, b1.pu rfl rfl, ?_⟩; conv => whnf)
    | (refine ⟨_, _, vx.pu rfl rfl, ?_⟩; conv => whnf)
    | (refine ⟨_, _, gr.pu rfl rfl, ?_⟩; conv => whnf)
    | (refine ⟨_, _, v1.pu rfl rfl, ?_⟩; conv => whnf)
    | (refine ⟨_, _, v2.pu rfl rfl, ?_⟩; conv => whnf)
    | (refine ⟨_, _, ms.pu rfl rfl, ?_⟩; conv => whnf)
    | (refine ⟨_, _, v3.pu rfl rfl, ?_⟩; conv => whnf)
    | (refine ⟨_, _, gh.pu rfl rfl, ?_⟩; conv => whnf)
    | (refine ⟨_, _, m1.pu rfl rfl, ?_⟩; conv => whnf)
    | (refine ⟨_, _, a1.pu rfl rfl, ?_⟩; conv => whnf)
    | (refine ⟨_, _, eqS (by kernel_rfl), ?_⟩; conv => whnf)
    | (refine ⟨_, _, eqB (by kernel_rfl), ?_⟩; conv => whnf)))
  all_goals try (exfalso; simp only [decide_eq_true_eq, decide_eq_false_iff_not, Bool.not_eq_true', Bool.not_eq_false', Bool.not_eq_true, Bool.not_eq_false, beq_iff_eq, bne_iff_ne, beq_eq_false_iff_ne, bne_eq_false_iff_eq, ne_eq, Decidable.not_not] at *; first | omega | contradiction | (simp_all; done) | (simp_all; omega))
  all_goals try (refine Or.inl ?_; conv => whnf)
  repeat (any_goals (first
    | exact True.intro
    | (refine And.intro (fun _ => ?_) tf; conv => whnf)
    | (refine And.intro ft (fun _ => ?_); conv => whnf)
    | (refine And.intro (by kernel_rfl) ?_; conv => whnf)
    | (refine And.intro (by decide) ?_; conv => whnf)
    | (refine And.intro (fun _ => ?_) (fun h => absurd h (by decide)); conv => whnf)
    | (refine And.intro (fun h => absurd h (by decide)) (fun _ => ?_); conv => whnf)
    | (refine And.intro (fun _ => ?_) (fun _ => ?_) <;> conv => whnf)
    | (refine ⟨_, _, alive17_sat.pu rfl rfl, ?_⟩; conv => whnf)
    | (refine ⟨_, _, b1.pu rfl rfl, ?_⟩; conv => whnf)
    | (refine ⟨_, _, vx.pu rfl rfl, ?_⟩; conv => whnf)
    | (refine ⟨_, _, gr.pu rfl rfl, ?_⟩; conv => whnf)
    | (refine ⟨_, _, v1.pu rfl rfl, ?_⟩; conv => whnf)
    | (refine ⟨_, _, v2.pu rfl rfl, ?_⟩; conv => whnf)
    | (refine ⟨_, _, ms.pu rfl rfl, ?_⟩; conv => whnf)
    | (refine ⟨_, _, v3.pu rfl rfl, ?_⟩; conv => whnf)
    | (refine ⟨_, _, gh.pu rfl rfl, ?_⟩; conv => whnf)
    | (refine ⟨_, _, m1.pu rfl rfl, ?_⟩; conv => whnf)
    | (refine ⟨_, _, a1.pu rfl rfl, ?_⟩; conv => whnf)
    | (refine ⟨_, _, eqS (by kernel_rfl), ?_⟩; conv => whnf)
    | (refine ⟨_, _, eqB (by kernel_rfl), ?_⟩; conv => whnf)))
  all_goals try (exfalso; simp only [decide_eq_true_eq, decide_eq_false_iff_not, Bool.not_eq_true', Bool.not_eq_false', Bool.not_eq_true, Bool.not_eq_false, beq_iff_eq, bne_iff_ne, beq_eq_false_iff_ne, bne_eq_false_iff_eq, ne_eq, Decidable.not_not] at *; first | omega | contradiction | (simp_all; done) | (simp_all; omega))
  all_goals try (refine Or.inl ?_; conv => whnf)
  repeat (any_goals (first
    | exact True.intro
    | (refine And.intro (fun _ => ?_) tf; conv => whnf)
    | (refine And.intro ft (fun _ => ?_); conv => whnf)
    | (refine And.intro (by kernel_rfl) ?_; conv => whnf)
    | (refine And.intro (by decide) ?_; conv => whnf)
    | (refine And.intro (fun _ => ?_) (fun h => absurd h (by decide)); conv => whnf)
    | (refine And.intro (fun h => absurd h (by decide)) (fun _ => ?_); conv => whnf)
    | (refine And.intro (fun _ => ?_) (fun _ => ?_) <;> conv => whnf)
    | (refine ⟨_, _, alive17_sat.pu rfl rfl, ?_⟩; conv => whnf)
    | (refine ⟨_, _, b1.pu rfl rfl, ?_⟩; conv => whnf)
    | (refine ⟨_, _, vx.pu rfl rfl, ?_⟩; conv => whnf)
    | (refine ⟨_, _, gr.pu rfl rfl, ?_⟩; conv => whnf)
    | (refine ⟨_, _, v1.pu rfl rfl, ?_⟩; conv => whnf)
    | (refine ⟨_, _, v2.pu rfl rfl, ?_⟩; conv => whnf)
    | (refine ⟨_, _, ms.pu rfl rfl, ?_⟩; conv => whnf)
    | (refine ⟨_, _, v3.pu rfl rfl, ?_⟩; conv => whnf)
    | (refine ⟨_, _, gh.pu rfl rfl, ?_⟩; conv => whnf)
    | (refine ⟨_, _, m1.pu rfl rfl, ?_⟩; conv => whnf)
    | (refine ⟨_, _, a1.pu rfl rfl, ?_⟩; conv => whnf)
    | (refine ⟨_, _, eqS (by kernel_rfl), ?_⟩; conv => whnf)
    | (refine ⟨_, _, eqB (by kernel_rfl), ?_⟩; conv => whnf)))
  all_goals try (exfalso; simp only [decide_eq_true_eq, decide_eq_false_iff_not, Bool.not_eq_true', Bool.not_eq_false', Bool.not_eq_true, Bool.not_eq_false, beq_iff_eq, bne_iff_ne, beq_eq_false_iff_ne, bne_eq_false_iff_eq, ne_eq, Decidable.not_not] at *; first | omega | contradiction | (simp_all; done) | (simp_all; omega))
  all_goals try (refine Or.inl ?_; conv => whnf)
  repeat (any_goals (first
    | exact True.intro
    | (refine And.intro (fun _ => ?_) tf; conv => whnf)
    | (refine And.intro ft (fun _ => ?_); conv => whnf)
    | (refine And.intro (by kernel_rfl) ?_; conv => whnf)
    | (refine And.intro (by decide) ?_; conv => whnf)
    | (refine And.intro (fun _ => ?_) (fun h => absurd h (by decide)); conv => whnf)
    | (refine And.intro (fun h => absurd h (by decide)) (fun _ => ?_); conv => whnf)
    | (refine And.intro (fun _ => ?_) (fun _ => ?_) <;> conv => whnf)
    | (refine ⟨_, _, alive17_sat.pu rfl rfl, ?_⟩; conv => whnf)
    | (refine ⟨_, _, b1.pu rfl rfl, ?_⟩; conv => whnf)
    | (refine ⟨_, _, vx.pu rfl rfl, ?_⟩; conv => whnf)
    | (refine ⟨_, _, gr.pu rfl rfl, ?_⟩; conv => whnf)
    | (refine ⟨_, _, v1.pu rfl rfl, ?_⟩; conv => whnf)
    | (refine ⟨_, _, v2.pu rfl rfl, ?_⟩; conv => whnf)
    | (refine ⟨_, _, ms.pu rfl rfl, ?_⟩; conv => whnf)
    | (refine ⟨_, _, v3.pu rfl rfl, ?_⟩; conv => whnf)
    | (refine ⟨_, _, gh.pu rfl rfl, ?_⟩; conv => whnf)
    | (refine ⟨_, _, m1.pu rfl rfl, ?_⟩; conv => whnf)
    | (refine ⟨_, _, a1.pu rfl rfl, ?_⟩; conv => whnf)
    | (refine ⟨_, _, eqS (by kernel_rfl), ?_⟩; conv => whnf)
    | (refine ⟨_, _, eqB (by kernel_rfl), ?_⟩; conv => whnf)))
  all_goals try (exfalso; simp only [decide_eq_true_eq, decide_eq_false_iff_not, Bool.not_eq_true', Bool.not_eq_false', Bool.not_eq_true, Bool.not_eq_false, beq_iff_eq, bne_iff_ne, beq_eq_false_iff_ne, bne_eq_false_iff_eq, ne_eq, Decidable.not_not] at *; first | omega | contradiction | (simp_all; done) | (simp_all; omega))
  refine Or.inr ⟨Unit, fun _ => True, fun _ => ([(5, .ptr 0 0), (0, .d (.sl 2 (gs.map gR)))], [.cells [iA lo, iA hi]]), ?_, fun _ _ => ?_⟩
  · repeat (any_goals (first
      | exact True.intro
      | (refine And.intro (fun _ => ?_) tf; conv => whnf)
      | (refine And.intro ft (fun _ => ?_); conv => whnf)
      | (refine And.intro (by kernel_rfl) ?_; conv => whnf)
      | (refine And.intro (by decide) ?_; conv => whnf)
      | (refine And.intro (fun _ => ?_) (fun h => absurd h (by decide)); conv => whnf)
      | (refine And.intro (fun h => absurd h (by decide)) (fun _ => ?_); conv => whnf)
      | (refine And.intro (fun _ => ?_) (fun _ => ?_) <;> conv => whnf)
      | (refine ⟨_, _, alive17_sat.pu rfl rfl, ?_⟩; conv => whnf)
      | (refine ⟨_, _, b1.pu rfl rfl, ?_⟩; conv => whnf)
      | (refine ⟨_, _, vx.pu rfl rfl, ?_⟩; conv => whnf)
      | (refine ⟨_, _, gr.pu rfl rfl, ?_⟩; conv => whnf)
      | (refine ⟨_, _, v1.pu rfl rfl, ?_⟩; conv => whnf)
      | (refine ⟨_, _, v2.pu rfl rfl, ?_⟩; conv => whnf)
      | (refine ⟨_, _, ms.pu rfl rfl, ?_⟩; conv => whnf)
      | (refine ⟨_, _, v3.pu rfl rfl, ?_⟩; conv => whnf)
      | (refine ⟨_, _, gh.pu rfl rfl, ?_⟩; conv => whnf)
      | (refine ⟨_, _, m1.pu rfl rfl, ?_⟩; conv => whnf)
      | (refine ⟨_, _, a1.pu rfl rfl, ?_⟩; conv => whnf)
      | (refine ⟨_, _, eqS (by kernel_rfl), ?_⟩; conv => whnf)
      | (refine ⟨_, _, eqB (by kernel_rfl), ?_⟩; conv => whnf)))
    all_goals try (exfalso; simp only [decide_eq_true_eq, decide_eq_false_iff_not, Bool.not_eq_true', Bool.not_eq_false', Bool.not_eq_true, Bool.not_eq_false, beq_iff_eq, bne_iff_ne, beq_eq_false_iff_ne, bne_eq_false_iff_eq, ne_eq, Decidable.not_not] at *; first | omega | contradiction | (simp_all; done) | (simp_all; omega))
    all_goals (refine ⟨(), trivial, ?_⟩)
    all_goals refine ⟨[], ?_⟩
    repeat (any_goals (first | exact True.intro | exact rfl | with_reducible_and_instances rfl | exact (by kernel_rfl) | refine And.intro ?_ ?_))
    all_goals conv => whnf
  · cases ag
    · have hM : M.2 ≠ 0 := fun h => by rw [h] at hdef; simp [hlen] at hdef
      repeat (any_goals (first
        | exact True.intro
        | (refine Or.inl ?_; conv => whnf)
        | (refine And.intro (fun _ => ?_) tf; conv => whnf)
        | (refine And.intro ft (fun _ => ?_); conv => whnf)
        | (refine And.intro (by kernel_rfl) ?_; conv => whnf)
        | (refine And.intro (by decide) ?_; conv => whnf)
        | (refine And.intro (fun _ => ?_) (fun h => absurd h (by decide)); conv => whnf)
        | (refine And.intro (fun h => absurd h (by decide)) (fun _ => ?_); conv => whnf)
        | (refine And.intro (fun _ => ?_) (fun _ => ?_) <;> conv => whnf)
        | (refine ⟨_, _, alive17_sat.pu rfl rfl, ?_⟩; conv => whnf)
        | (refine ⟨_, _, b1.pu rfl rfl, ?_⟩; conv => whnf)
        | (refine ⟨_, _, vx.pu rfl rfl, ?_⟩; conv => whnf)
        | (refine ⟨_, _, gr.pu rfl rfl, ?_⟩; conv => whnf)
        | (refine ⟨_, _, v1.pu rfl rfl, ?_⟩; conv => whnf)
        | (refine ⟨_, _, v2.pu rfl rfl, ?_⟩; conv => whnf)
        | (refine ⟨_, _, ms.pu rfl rfl, ?_⟩; conv => whnf)
        | (refine ⟨_, _, v3.pu rfl rfl, ?_⟩; conv => whnf)
        | (refine ⟨_, _, gh.pu rfl rfl, ?_⟩; conv => whnf)
        | (refine ⟨_, _, m1.pu rfl rfl, ?_⟩; conv => whnf)
        | (refine ⟨_, _, a1.pu rfl rfl, ?_⟩; conv => whnf)
        | (refine ⟨_, _, eqS (by kernel_rfl), ?_⟩; conv => whnf)
        | (refine ⟨_, _, eqB (by kernel_rfl), ?_⟩; conv => whnf)))
      · all_goals refine ⟨[], ?_⟩
        repeat (any_goals (first | exact True.intro | exact rfl | with_reducible_and_instances rfl | exact (by kernel_rfl) | refine And.intro ?_ ?_))
        all_goals conv => whnf
      · exfalso
        have h : (false == ((M.2 : Int) == 0)) = false := by assumption
        have h2 : ((M.2 : Int) == 0) = false := by
          rw [beq_eq_false_iff_ne]; omega
        rw [h2] at h
        exact absurd h (by decide)
      · all_goals refine ⟨[], ?_⟩
        repeat (any_goals (first | exact True.intro | exact rfl | with_reducible_and_instances rfl | exact (by kernel_rfl) | refine And.intro ?_ ?_))
        all_goals conv => whnf
    · obtain ⟨_, hM⟩ := hag rfl
      subst hM
      repeat (any_goals (first
        | exact True.intro
        | (refine Or.inl ?_; conv => whnf)
        | (refine And.intro (fun _ => ?_) tf; conv => whnf)
        | (refine And.intro ft (fun _ => ?_); conv => whnf)
        | (refine And.intro (by kernel_rfl) ?_; conv => whnf)
        | (refine And.intro (by decide) ?_; conv => whnf)
        | (refine And.intro (fun _ => ?_) (fun h => absurd h (by decide)); conv => whnf)
        | (refine And.intro (fun h => absurd h (by decide)) (fun _ => ?_); conv => whnf)
        | (refine And.intro (fun _ => ?_) (fun _ => ?_) <;> conv => whnf)
        | (refine ⟨_, _, alive17_sat.pu rfl rfl, ?_⟩; conv => whnf)
        | (refine ⟨_, _, b1.pu rfl rfl, ?_⟩; conv => whnf)
        | (refine ⟨_, _, vx.pu rfl rfl, ?_⟩; conv => whnf)
        | (refine ⟨_, _, gr.pu rfl rfl, ?_⟩; conv => whnf)
        | (refine ⟨_, _, v1.pu rfl rfl, ?_⟩; conv => whnf)
        | (refine ⟨_, _, v2.pu rfl rfl, ?_⟩; conv => whnf)
        | (refine ⟨_, _, ms.pu rfl rfl, ?_⟩; conv => whnf)
        | (refine ⟨_, _, v3.pu rfl rfl, ?_⟩; conv => whnf)
        | (refine ⟨_, _, gh.pu rfl rfl, ?_⟩; conv => whnf)
        | (refine ⟨_, _, m1.pu rfl rfl, ?_⟩; conv => whnf)
        | (refine ⟨_, _, a1.pu rfl rfl, ?_⟩; conv => whnf)
        | (refine ⟨_, _, eqS (by kernel_rfl), ?_⟩; conv => whnf)
        | (refine ⟨_, _, eqB (by kernel_rfl), ?_⟩; conv => whnf)))
      · all_goals refine ⟨[], ?_⟩
        repeat (any_goals (first | exact True.intro | exact rfl | with_reducible_and_instances rfl | exact (by kernel_rfl) | refine And.intro ?_ ?_))
        all_goals conv => whnf
        simp
      · exfalso
        have h := of_decide_eq_false ‹decide (((gs.map gR).length : Int) > 0) = false›
        omega
theorem most_law (H : Type) (enc : TypeId × Value → H) : LawWalk H enc Try.prog 9 Try.f9 :=
  lawWalk_of_sat (by kernel_rfl) fun args h => by
    obtain ⟨l, _, rfl, h1, h⟩ := h
    obtain ⟨a, _, rfl, h2, h⟩ := h
    obtain rfl := h
    obtain ⟨gs, rfl, hin, _⟩ := ty_gaps h1
    obtain ⟨a, rfl, ha⟩ := ty_i64 h2 Try.underlying2
    exact most_sat gs a hin
end Go.Proofs.Ytefidbifgilekaa
