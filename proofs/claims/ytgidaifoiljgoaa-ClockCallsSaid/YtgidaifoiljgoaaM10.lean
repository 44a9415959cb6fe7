/- Parts Rp, Rq, Ki, Kw, Rr, Kx of the proof, put together. -/
import Derived.Test.YtgidaifoiljgoaaM9
/- The document's clock: At of a sample, New, gaps, Add, At. -/
namespace Go.Proofs.Ytgidaifoiljgoaa
set_option linter.unusedSimpArgs false
set_option linter.unusedVariables false
open Go.RowKit
set_option maxRecDepth 100000
theorem refTime_sat (v : Int) : Sat Try.prog 52 [iA v] [] (bA (isT v)) [] := by
  by_cases h : 0 ≤ v ∧ v ≤ 4611686018427387903
  · rw [show isT v = true from decide_eq_true h]
    refine sat_of_vc (T := tiOf Try.prog) (E := E0) Try.func52 rfl rfl hE0 hm0 rfl ?_
    conv => whnf
    repeat (any_goals (first
      | exact True.intro
      | (refine Or.inl ?_; conv => whnf)
      | (refine And.intro (fun _ => ?_) tf; conv => whnf)
      | (refine And.intro ft (fun _ => ?_); conv => whnf)
      | (refine And.intro (by kernel_rfl) ?_; conv => whnf)
      | (refine And.intro (by decide) ?_; conv => whnf)
      | (refine And.intro (fun _ => ?_) (fun h => absurd h (by decide)); conv => whnf)
      | (refine And.intro (fun h => absurd h (by decide)) (fun _ => ?_); conv => whnf)
      | (refine And.intro (fun _ => ?_) (fun _ => ?_) <;> conv => whnf)))
    all_goals try (exfalso; simp only [decide_eq_true_eq, decide_eq_false_iff_not, Bool.not_eq_true', Bool.not_eq_false', Bool.not_eq_true, Bool.not_eq_false, beq_iff_eq, bne_iff_ne, beq_eq_false_iff_ne, bne_eq_false_iff_eq, ne_eq, Decidable.not_not] at *; first | omega | contradiction | (simp_all; done) | (simp_all; omega))
    all_goals refine ⟨[], ?_⟩
    repeat (any_goals (first | exact True.intro | exact rfl | with_reducible_and_instances rfl | exact (by kernel_rfl) | refine And.intro ?_ ?_))
    all_goals conv => whnf
    rw [decide_eq_true h.2]
  · rw [show isT v = false from decide_eq_false h]
    refine sat_of_vc (T := tiOf Try.prog) (E := E0) Try.func52 rfl rfl hE0 hm0 rfl ?_
    conv => whnf
    repeat (any_goals (first
      | exact True.intro
      | (refine Or.inl ?_; conv => whnf)
      | (refine And.intro (fun _ => ?_) tf; conv => whnf)
      | (refine And.intro ft (fun _ => ?_); conv => whnf)
      | (refine And.intro (by kernel_rfl) ?_; conv => whnf)
      | (refine And.intro (by decide) ?_; conv => whnf)
      | (refine And.intro (fun _ => ?_) (fun h => absurd h (by decide)); conv => whnf)
      | (refine And.intro (fun h => absurd h (by decide)) (fun _ => ?_); conv => whnf)
      | (refine And.intro (fun _ => ?_) (fun _ => ?_) <;> conv => whnf)))
    · all_goals refine ⟨[], ?_⟩
      repeat (any_goals (first | exact True.intro | exact rfl | with_reducible_and_instances rfl | exact (by kernel_rfl) | refine And.intro ?_ ?_))
      all_goals conv => whnf
      have := of_decide_eq_true ‹decide (v ≥ 0) = true›
      rw [decide_eq_false (by omega)]
    · all_goals refine ⟨[], ?_⟩
      repeat (any_goals (first | exact True.intro | exact rfl | with_reducible_and_instances rfl | exact (by kernel_rfl) | refine And.intro ?_ ?_))
      all_goals conv => whnf
theorem refOkS_sat (s : Smp) : Sat Try.prog 47 [sA s] [] (bA (okS s)) [] := by
  have t1 := refTime_sat s.asked
  have t2 := refTime_sat s.got
  have t3 := refTime_sat s.sent
  have t4 := refTime_sat s.came
  refine sat_of_vc (T := tiOf Try.prog) (E := E0) Try.func47 rfl rfl hE0 hm0 rfl ?_
  conv => whnf
  repeat (any_goals (first
    | exact True.intro
    | (refine Or.inl ?_; conv => whnf)
    | (refine And.intro (fun _ => ?_) tf; conv => whnf)
    | (refine And.intro ft (fun _ => ?_); conv => whnf)
    | (refine And.intro (by kernel_rfl) ?_; conv => whnf)
    | (refine And.intro (by decide) ?_; conv => whnf)
    | (refine And.intro (fun _ => ?_) (fun h => absurd h (by decide)); conv => whnf)
    | (refine And.intro (fun h => absurd h (by decide)) (fun _ => ?_); conv => whnf)
    | (refine And.intro (fun _ => ?_) (fun _ => ?_) <;> conv => whnf)
    | (refine ⟨_, _, t1.pu rfl rfl, ?_⟩; conv => whnf)
    | (refine ⟨_, _, t2.pu rfl rfl, ?_⟩; conv => whnf)
    | (refine ⟨_, _, t3.pu rfl rfl, ?_⟩; conv => whnf)
    | (refine ⟨_, _, t4.pu rfl rfl, ?_⟩; conv => whnf)))
  · rw [show okS s = decide (s.got ≤ s.sent) from by unfold okS; simp_all]
    all_goals refine ⟨[], ?_⟩
    repeat (any_goals (first | exact True.intro | exact rfl | with_reducible_and_instances rfl | exact (by kernel_rfl) | refine And.intro ?_ ?_))
    all_goals conv => whnf
  all_goals rw [show okS s = false from by unfold okS; simp_all <;> omega]
  all_goals refine ⟨[], ?_⟩
  repeat (any_goals (first | exact True.intro | exact rfl | with_reducible_and_instances rfl | exact (by kernel_rfl) | refine And.intro ?_ ?_))
  all_goals conv => whnf
theorem refSum_sat (a b : Int) (ha : -9223372036854775808 ≤ a ∧ a ≤ 9223372036854775807) (hb : -9223372036854775808 ≤ b ∧ b ≤ 9223372036854775807) : Sat Try.prog 73 [iA a, iA b] [] (.d (numD (a + b))) [] := by
  have oa := of_num a ha
  have ob := of_num b hb
  have ad := add_few (k := 4) (by omega) (few_i64 ha) (few_i64 hb)
  refine sat_of_vc (T := tiOf Try.prog) (E := E0) Try.func73 rfl rfl hE0 hm0 rfl ?_
  conv => whnf
  repeat (any_goals (first
    | exact True.intro
    | (refine Or.inl ?_; conv => whnf)
    | (refine And.intro (fun _ => ?_) tf; conv => whnf)
    | (refine And.intro ft (fun _ => ?_); conv => whnf)
    | (refine And.intro (by kernel_rfl) ?_; conv => whnf)
    | (refine And.intro (by decide) ?_; conv => whnf)
    | (refine And.intro (fun _ => ?_) (fun h => absurd h (by decide)); conv => whnf)
    | (refine And.intro (fun h => absurd h (by decide)) (fun _ => ?_); conv => whnf)
    | (refine And.intro (fun _ => ?_) (fun _ => ?_) <;> conv => whnf)
    | (refine ⟨_, _, oa.pu rfl rfl, ?_⟩; conv => whnf)
    | (refine ⟨_, _, ob.pu rfl rfl, ?_⟩; conv => whnf)
    | (refine ⟨_, _, ad.pu rfl rfl, ?_⟩; conv => whnf)))
  all_goals refine ⟨[], ?_⟩
  repeat (any_goals (first | exact True.intro | exact rfl | with_reducible_and_instances rfl | exact (by kernel_rfl) | refine And.intro ?_ ?_))
  all_goals conv => whnf
theorem few0 {k : Nat} : few k 0 := by unfold few; exact Nat.pow_pos (by omega)
theorem refAt_sat (s : Smp) (stamp rho : Int) (h1 : -9223372036854775808 ≤ stamp) (h2 : stamp ≤ 9223372036854775807) : Sat Try.prog 50 [sA s, iA stamp, iA rho] [] (.tup [gA (atR s stamp rho).1, iA (atR s stamp rho).2]) [] := by
  have ok := refOkS_sat s
  have ti := refTime_sat stamp
  have ra := refRate_sat rho
  by_cases hs : okS s = true
  case neg =>
    have hs : okS s = false := by simpa using hs
    have hr : atR s stamp rho = ((0, 0), 10) := if_pos hs
    rw [hr]
    refine sat_of_vc (T := tiOf Try.prog) (E := E0) Try.func50 rfl rfl hE0 hm0 rfl ?_
    conv => whnf
    repeat (any_goals (first
      | exact True.intro
      | (refine Or.inl ?_; conv => whnf)
      | (refine And.intro (fun _ => ?_) tf; conv => whnf)
      | (refine And.intro ft (fun _ => ?_); conv => whnf)
      | (refine And.intro (by kernel_rfl) ?_; conv => whnf)
      | (refine And.intro (by decide) ?_; conv => whnf)
      | (refine And.intro (fun _ => ?_) (fun h => absurd h (by decide)); conv => whnf)
      | (refine And.intro (fun h => absurd h (by decide)) (fun _ => ?_); conv => whnf)
      | (refine And.intro (fun _ => ?_) (fun _ => ?_) <;> conv => whnf)
      | (refine ⟨_, _, ok.pu rfl rfl, ?_⟩; conv => whnf)))
    all_goals try (exfalso; simp only [decide_eq_true_eq, decide_eq_false_iff_not, Bool.not_eq_true', Bool.not_eq_false', Bool.not_eq_true, Bool.not_eq_false, beq_iff_eq, bne_iff_ne, beq_eq_false_iff_ne, bne_eq_false_iff_eq, ne_eq, Decidable.not_not] at *; first | omega | contradiction | (simp_all; done) | (simp_all; omega))
    all_goals refine ⟨[], ?_⟩
    repeat (any_goals (first | exact True.intro | exact rfl | with_reducible_and_instances rfl | exact (by kernel_rfl) | refine And.intro ?_ ?_))
    all_goals conv => whnf
  by_cases ht : isT stamp = true ∧ okRate rho = true
  case neg =>
    have hr : atR s stamp rho = ((0, 0), 11) := by
      unfold atR
      rw [if_neg (by simp [hs]), if_pos]
      cases q : isT stamp <;> cases q' : okRate rho <;> simp_all
    rw [hr]
    refine sat_of_vc (T := tiOf Try.prog) (E := E0) Try.func50 rfl rfl hE0 hm0 rfl ?_
    conv => whnf
    repeat (any_goals (first
      | exact True.intro
      | (refine Or.inl ?_; conv => whnf)
      | (refine And.intro (fun _ => ?_) tf; conv => whnf)
      | (refine And.intro ft (fun _ => ?_); conv => whnf)
      | (refine And.intro (by kernel_rfl) ?_; conv => whnf)
      | (refine And.intro (by decide) ?_; conv => whnf)
      | (refine And.intro (fun _ => ?_) (fun h => absurd h (by decide)); conv => whnf)
      | (refine And.intro (fun h => absurd h (by decide)) (fun _ => ?_); conv => whnf)
      | (refine And.intro (fun _ => ?_) (fun _ => ?_) <;> conv => whnf)
      | (refine ⟨_, _, ok.pu rfl rfl, ?_⟩; conv => whnf)
      | (refine ⟨_, _, ti.pu rfl rfl, ?_⟩; conv => whnf)
      | (refine ⟨_, _, ra.pu rfl rfl, ?_⟩; conv => whnf)))
    all_goals try (exfalso; simp only [decide_eq_true_eq, decide_eq_false_iff_not, Bool.not_eq_true', Bool.not_eq_false', Bool.not_eq_true, Bool.not_eq_false, beq_iff_eq, bne_iff_ne, beq_eq_false_iff_ne, bne_eq_false_iff_eq, ne_eq, Decidable.not_not] at *; first | omega | contradiction | (simp_all; done) | (simp_all; omega))
    all_goals refine ⟨[], ?_⟩
    repeat (any_goals (first | exact True.intro | exact rfl | with_reducible_and_instances rfl | exact (by kernel_rfl) | refine And.intro ?_ ?_))
    all_goals conv => whnf
  obtain ⟨n1, n2⟩ := lowIn s stamp rho hs ht.1 ht.2
  have hst := of_decide_eq_true ht.1
  have hs' := hs
  simp [okS, isT] at hs'
  have b1 := lowZ_bounds (stamp - s.got) rho n1 ht.2
  have n3 : nearX (-(stamp - s.sent)) = true := by have := of_decide_eq_true n2; exact decide_eq_true (by omega)
  have b2 := lowZ_bounds (-(stamp - s.sent)) rho n3 ht.2
  have lo := refLow_sat (stamp - s.got) rho n1 ht.2
  have hi := refHigh_sat (stamp - s.sent) rho n2 ht.2
  have hhz : highZ (stamp - s.sent) rho = -lowZ (-(stamp - s.sent)) rho := rfl
  have w1 : IntKind.i64.wrap (stamp - s.got) = stamp - s.got := wi (by omega) (by omega)
  have w2 : IntKind.i64.wrap (stamp - s.sent) = stamp - s.sent := wi (by omega) (by omega)
  have s1 := refSum_sat s.asked (lowZ (stamp - s.got) rho) (by omega) (by omega)
  have s2 := refSum_sat s.came (highZ (stamp - s.sent) rho) (by omega) (by omega)
  have o0 := of_num 0 (by omega)
  have oM := of_num 4611686018427387903 (by omega)
  generalize hA : s.asked + lowZ (stamp - s.got) rho = A at *
  generalize hB : s.came + highZ (stamp - s.sent) rho = B at *
  have fA : few 5 A := few_mono (few_i64 (z := A) (by omega)) (by omega)
  have fB : few 5 B := by show B.natAbs < 1208925819614629174706176; omega
  have fM : few 5 4611686018427387903 := few_mono (few_i64 (by omega)) (by omega)
  have c1 := cmp_num (k := 5) (by omega) fA (few0 (k := 5))
  have c2 := cmp_num (k := 5) (by omega) fB fM
  have eLo : atLo s stamp rho = max A 0 := by unfold atLo; rw [hA]
  have eHi : atHi s stamp rho = min B 4611686018427387903 := by unfold atHi; rw [hB]
  have fa : few 5 (max A 0) := few_mono (few_i64 (z := max A 0) (by omega)) (by omega)
  have fb : few 5 (min B 4611686018427387903) := few_mono (few_i64 (z := min B 4611686018427387903) (by omega)) (by omega)
  have c3 := cmp_num (k := 5) (by omega) fa fb
  have l1 := long_num (max A 0) (by have := few_len fa; omega)
  have l2 := long_num (min B 4611686018427387903) (by have := few_len fb; omega)
  rw [longZ_in (by omega)] at l1 l2
  have hr : atR s stamp rho = if min B 4611686018427387903 < max A 0 then ((0, 0), 13) else ((max A 0, min B 4611686018427387903), 0) := by
    unfold atR
    rw [if_neg (by simp [hs]), if_neg (by simp [ht.1, ht.2]), eLo, eHi]
  rw [hr]
  refine sat_of_vc (T := tiOf Try.prog) (E := E0) Try.func50 rfl rfl hE0 hm0 rfl ?_
  conv => whnf
  repeat (any_goals (first
    | exact True.intro
    | (refine And.intro (fun _ => ?_) tf; conv => whnf)
    | (refine And.intro ft (fun _ => ?_); conv => whnf)
    | (refine And.intro (by kernel_rfl) ?_; conv => whnf)
    | (refine And.intro (by decide) ?_; conv => whnf)
    | (refine And.intro (fun _ => ?_) (fun h => absurd h (by decide)); conv => whnf)
    | (refine And.intro (fun h => absurd h (by decide)) (fun _ => ?_); conv => whnf)
    | (refine And.intro (fun _ => ?_) (fun _ => ?_) <;> conv => whnf)))
  all_goals try (refine Or.inl ?_; conv => whnf)
  repeat (any_goals (first
    | exact True.intro
    | (refine And.intro (fun _ => ?_) tf; conv => whnf)
    | (refine And.intro ft (fun _ => ?_); conv => whnf)
    | (refine And.intro (by kernel_rfl) ?_; conv => whnf)
    | (refine And.intro (by decide) ?_; conv => whnf)
    | (refine And.intro (fun _ => ?_) (fun h => absurd h (by decide)); conv => whnf)
    | (refine And.intro (fun h => absurd h (by decide)) (fun _ => ?_); conv => whnf)
    | (refine And.intro (fun _ => ?_) (fun _ => ?_) <;> conv => whnf)
    | (refine ⟨_, _, ok.pu rfl rfl, ?_⟩; conv => whnf)))
  all_goals try (exfalso; simp only [decide_eq_true_eq, decide_eq_false_iff_not, Bool.not_eq_true', Bool.not_eq_false', Bool.not_eq_true, Bool.not_eq_false, beq_iff_eq, bne_iff_ne, beq_eq_false_iff_ne, bne_eq_false_iff_eq, ne_eq, Decidable.not_not] at *; first | omega | contradiction | (simp_all; done) | (simp_all; omega))
  all_goals try (refine Or.inl ?_; conv => whnf)
  repeat (any_goals (first
    | exact True.intro
    | (refine And.intro (fun _ => ?_) tf; conv => whnf)
    | (refine And.intro ft (fun _ => ?_); conv => whnf)
    | (refine And.intro (by kernel_rfl) ?_; conv => whnf)
    | (refine And.intro (by decide) ?_; conv => whnf)
    | (refine And.intro (fun _ => ?_) (fun h => absurd h (by decide)); conv => whnf)
    | (refine And.intro (fun h => absurd h (by decide)) (fun _ => ?_); conv => whnf)
    | (refine And.intro (fun _ => ?_) (fun _ => ?_) <;> conv => whnf)
    | (refine ⟨_, _, ti.pu rfl rfl, ?_⟩; conv => whnf)
    | (refine ⟨_, _, ra.pu rfl rfl, ?_⟩; conv => whnf)))
  all_goals try (exfalso; simp only [decide_eq_true_eq, decide_eq_false_iff_not, Bool.not_eq_true', Bool.not_eq_false', Bool.not_eq_true, Bool.not_eq_false, beq_iff_eq, bne_iff_ne, beq_eq_false_iff_ne, bne_eq_false_iff_eq, ne_eq, Decidable.not_not] at *; first | omega | contradiction | (simp_all; done) | (simp_all; omega))
  all_goals try (refine Or.inl ?_; conv => whnf)
  repeat (any_goals (first
    | exact True.intro
    | (refine And.intro (fun _ => ?_) tf; conv => whnf)
    | (refine And.intro ft (fun _ => ?_); conv => whnf)
    | (refine And.intro (by kernel_rfl) ?_; conv => whnf)
    | (refine And.intro (by decide) ?_; conv => whnf)
    | (refine And.intro (fun _ => ?_) (fun h => absurd h (by decide)); conv => whnf)
    | (refine And.intro (fun h => absurd h (by decide)) (fun _ => ?_); conv => whnf)
    | (rw [w1]; conv => whnf)
    | (rw [w2]; conv => whnf)
    | (refine And.intro (fun _ => ?_) (fun _ => ?_) <;> conv => whnf)
    | (refine ⟨_, _, lo.pu rfl rfl, ?_⟩; conv => whnf)
    | (refine ⟨_, _, hi.pu rfl rfl, ?_⟩; conv => whnf)
    | (refine ⟨_, _, s1.pu rfl rfl, ?_⟩; conv => whnf)
    | (refine ⟨_, _, s2.pu rfl rfl, ?_⟩; conv => whnf)
    | (refine ⟨_, _, c1.pu rfl rfl, ?_⟩; conv => whnf)
    | (refine ⟨_, _, o0.pu rfl rfl, ?_⟩; conv => whnf)))
  refine Or.inr ⟨Unit, fun _ => True, fun _ => ([(3, .ptr 0 0), (6, .ptr 1 0), (12, .ptr 2 0), (13, .ptr 3 0)], [.cells [iA s.asked, iA s.got, iA s.sent, iA s.came], .cells [iA 0, iA 0], .cells [bA (decide (max A 0 < 0)), .d (lD (canL (max A 0).natAbs))], .cells [bA (decide (B < 0)), .d (lD (canL B.natAbs))]]), ?_, fun _ _ => ?_⟩
  · repeat (any_goals (first
      | exact True.intro
      | (refine And.intro (fun _ => ?_) tf; conv => whnf)
      | (refine And.intro ft (fun _ => ?_); conv => whnf)
      | (refine And.intro (by kernel_rfl) ?_; conv => whnf)
      | (refine And.intro (by decide) ?_; conv => whnf)
      | (refine And.intro (fun _ => ?_) (fun h => absurd h (by decide)); conv => whnf)
      | (refine And.intro (fun h => absurd h (by decide)) (fun _ => ?_); conv => whnf)
      | (refine And.intro (fun _ => ?_) (fun _ => ?_) <;> conv => whnf)
      | (refine ⟨_, _, o0.pu rfl rfl, ?_⟩; conv => whnf)
      | (refine ⟨_, _, c1.pu rfl rfl, ?_⟩; conv => whnf)))
    · have h : A < 0 := by have h := of_decide_eq_true ‹decide (cmpZ A 0 < 0) = true›; unfold cmpZ at h; split at h <;> (try split at h) <;> omega
      refine ⟨(), trivial, ?_⟩
      rw [Int.max_eq_right (by omega)]
      all_goals refine ⟨[], ?_⟩
      repeat (any_goals (first | exact True.intro | exact rfl | with_reducible_and_instances rfl | exact (by kernel_rfl) | refine And.intro ?_ ?_))
      all_goals conv => whnf
    · have h : 0 ≤ A := by have h := of_decide_eq_false ‹decide (cmpZ A 0 < 0) = false›; unfold cmpZ at h; split at h <;> (try split at h) <;> omega
      refine ⟨(), trivial, ?_⟩
      rw [Int.max_eq_left (by omega)]
      all_goals refine ⟨[], ?_⟩
      repeat (any_goals (first | exact True.intro | exact rfl | with_reducible_and_instances rfl | exact (by kernel_rfl) | refine And.intro ?_ ?_))
      all_goals conv => whnf
  · repeat (any_goals (first
      | exact True.intro
      | (refine And.intro (fun _ => ?_) tf; conv => whnf)
      | (refine And.intro ft (fun _ => ?_); conv => whnf)
      | (refine And.intro (by kernel_rfl) ?_; conv => whnf)
      | (refine And.intro (by decide) ?_; conv => whnf)
      | (refine And.intro (fun _ => ?_) (fun h => absurd h (by decide)); conv => whnf)
      | (refine And.intro (fun h => absurd h (by decide)) (fun _ => ?_); conv => whnf)
      | (refine And.intro (fun _ => ?_) (fun _ => ?_) <;> conv => whnf)
      | (refine ⟨_, _, oM.pu rfl rfl, ?_⟩; conv => whnf)))
    refine Or.inr ⟨Unit, fun _ => True, fun _ => ([(3, .ptr 0 0), (6, .ptr 1 0), (12, .ptr 2 0), (13, .ptr 3 0)], [.cells [iA s.asked, iA s.got, iA s.sent, iA s.came], .cells [iA 0, iA 0], .cells [bA (decide (max A 0 < 0)), .d (lD (canL (max A 0).natAbs))], .cells [bA (decide (min B 4611686018427387903 < 0)), .d (lD (canL (min B 4611686018427387903).natAbs))]]), ?_, fun _ _ => ?_⟩
    · repeat (any_goals (first
        | exact True.intro
        | (refine And.intro (fun _ => ?_) tf; conv => whnf)
        | (refine And.intro ft (fun _ => ?_); conv => whnf)
        | (refine And.intro (by kernel_rfl) ?_; conv => whnf)
        | (refine And.intro (by decide) ?_; conv => whnf)
        | (refine And.intro (fun _ => ?_) (fun h => absurd h (by decide)); conv => whnf)
        | (refine And.intro (fun h => absurd h (by decide)) (fun _ => ?_); conv => whnf)
        | (refine And.intro (fun _ => ?_) (fun _ => ?_) <;> conv => whnf)
        | (refine ⟨_, _, c2.pu rfl rfl, ?_⟩; conv => whnf)))
      · have h : 4611686018427387903 < B := by have h := of_decide_eq_true ‹decide (cmpZ B 4611686018427387903 > 0) = true›; unfold cmpZ at h; split at h <;> (try split at h) <;> omega
        refine ⟨(), trivial, ?_⟩
        rw [Int.min_eq_right (by omega)]
        all_goals refine ⟨[], ?_⟩
        repeat (any_goals (first | exact True.intro | exact rfl | with_reducible_and_instances rfl | exact (by kernel_rfl) | refine And.intro ?_ ?_))
        all_goals conv => whnf
      · have h : B ≤ 4611686018427387903 := by have h := of_decide_eq_false ‹decide (cmpZ B 4611686018427387903 > 0) = false›; unfold cmpZ at h; split at h <;> (try split at h) <;> omega
        refine ⟨(), trivial, ?_⟩
        rw [Int.min_eq_left (by omega)]
        all_goals refine ⟨[], ?_⟩
        repeat (any_goals (first | exact True.intro | exact rfl | with_reducible_and_instances rfl | exact (by kernel_rfl) | refine And.intro ?_ ?_))
        all_goals conv => whnf
    · repeat (any_goals (first
        | exact True.intro
        | (refine Or.inl ?_; conv => whnf)
        | (refine And.intro (fun _ => ?_) tf; conv => whnf)
        | (refine And.intro ft (fun _ => ?_); conv => whnf)
        | (refine And.intro (by kernel_rfl) ?_; conv => whnf)
        | (refine And.intro (by decide) ?_; conv => whnf)
        | (refine And.intro (fun _ => ?_) (fun h => absurd h (by decide)); conv => whnf)
        | (refine And.intro (fun h => absurd h (by decide)) (fun _ => ?_); conv => whnf)
        | (refine And.intro (fun _ => ?_) (fun _ => ?_) <;> conv => whnf)
        | (refine ⟨_, _, c3.pu rfl rfl, ?_⟩; conv => whnf)
        | (refine ⟨_, _, l1.pu rfl rfl, ?_⟩; conv => whnf)
        | (refine ⟨_, _, l2.pu rfl rfl, ?_⟩; conv => whnf)))
      · have h : min B 4611686018427387903 < max A 0 := by have h := of_decide_eq_true ‹decide (cmpZ (max A 0) (min B 4611686018427387903) > 0) = true›; unfold cmpZ at h; split at h <;> (try split at h) <;> omega
        rw [if_pos h]
        all_goals refine ⟨[], ?_⟩
        repeat (any_goals (first | exact True.intro | exact rfl | with_reducible_and_instances rfl | exact (by kernel_rfl) | refine And.intro ?_ ?_))
        all_goals conv => whnf
      · have h : ¬ min B 4611686018427387903 < max A 0 := by have h := of_decide_eq_false ‹decide (cmpZ (max A 0) (min B 4611686018427387903) > 0) = false›; unfold cmpZ at h; split at h <;> (try split at h) <;> omega
        rw [if_neg h]
        all_goals refine ⟨[], ?_⟩
        repeat (any_goals (first | exact True.intro | exact rfl | with_reducible_and_instances rfl | exact (by kernel_rfl) | refine And.intro ?_ ?_))
        all_goals conv => whnf
end Go.Proofs.Ytgidaifoiljgoaa
/- The document's clock: New, gaps, Add, At. -/
namespace Go.Proofs.Ytgidaifoiljgoaa
set_option linter.unusedSimpArgs false
set_option linter.unusedVariables false
open Go.RowKit
set_option maxRecDepth 100000
abbrev rO (s : CSt) : AObj := .cells [iA s.rho, iA s.least, bA s.held, iA s.streak, .d (.sl 4 (s.list.map sR))]
theorem refNew_ok (rho least : Int) (h : okRate rho = true) (h1 : 0 ≤ least) (h2 : least ≤ 100) : Sat Try.prog 14 [iA rho, iA least] [] (.tup [.ptr 0 0, iA 0]) [rO ⟨rho, least, false, 0, []⟩] := by
  have ra := refRate_sat rho
  rw [h] at ra
  refine sat_of_vc (T := tiOf Try.prog) (E := E0) Try.func14 rfl rfl hE0 hm0 rfl ?_
  conv => whnf
  repeat (any_goals (first
    | exact True.intro
    | (refine Or.inl ?_; conv => whnf)
    | (refine And.intro (fun _ => ?_) tf; conv => whnf)
    | (refine And.intro ft (fun _ => ?_); conv => whnf)
    | (refine And.intro (by kernel_rfl) ?_; conv => whnf)
    | (refine And.intro (by decide) ?_; conv => whnf)
    | (refine And.intro (fun _ => ?_) (fun h => absurd h (by decide)); conv => whnf)
    | (refine And.intro (fun h => absurd h (by decide)) (fun _ => ?_); conv => whnf)
    | (refine And.intro (fun _ => ?_) (fun _ => ?_) <;> conv => whnf)
    | (refine ⟨_, _, ra.pu rfl rfl, ?_⟩; conv => whnf)))
  all_goals try (exfalso; simp only [decide_eq_true_eq, decide_eq_false_iff_not, Bool.not_eq_true', Bool.not_eq_false', Bool.not_eq_true, Bool.not_eq_false, beq_iff_eq, bne_iff_ne, beq_eq_false_iff_ne, bne_eq_false_iff_eq, ne_eq, Decidable.not_not] at *; first | omega | contradiction | (simp_all; done) | (simp_all; omega))
  all_goals refine ⟨[], ?_⟩
  repeat (any_goals (first | exact True.intro | exact rfl | with_reducible_and_instances rfl | exact (by kernel_rfl) | refine And.intro ?_ ?_))
  all_goals conv => whnf
theorem refNew_err (rho least : Int) (h : okRate rho = false ∨ least < 0 ∨ 100 < least) : Sat Try.prog 14 [iA rho, iA least] [] (.tup [.d (.v (.pointer none)), iA 11]) [] := by
  have ra := refRate_sat rho
  refine sat_of_vc (T := tiOf Try.prog) (E := E0) Try.func14 rfl rfl hE0 hm0 rfl ?_
  conv => whnf
  repeat (any_goals (first
    | exact True.intro
    | (refine Or.inl ?_; conv => whnf)
    | (refine And.intro (fun _ => ?_) tf; conv => whnf)
    | (refine And.intro ft (fun _ => ?_); conv => whnf)
    | (refine And.intro (by kernel_rfl) ?_; conv => whnf)
    | (refine And.intro (by decide) ?_; conv => whnf)
    | (refine And.intro (fun _ => ?_) (fun h => absurd h (by decide)); conv => whnf)
    | (refine And.intro (fun h => absurd h (by decide)) (fun _ => ?_); conv => whnf)
    | (refine And.intro (fun _ => ?_) (fun _ => ?_) <;> conv => whnf)
    | (refine ⟨_, _, ra.pu rfl rfl, ?_⟩; conv => whnf)))
  all_goals try (exfalso; simp only [decide_eq_true_eq, decide_eq_false_iff_not, Bool.not_eq_true', Bool.not_eq_false', Bool.not_eq_true, Bool.not_eq_false, beq_iff_eq, bne_iff_ne, beq_eq_false_iff_ne, bne_eq_false_iff_eq, ne_eq, Decidable.not_not] at *; first | omega | contradiction | (simp_all; done) | (simp_all; omega))
  all_goals refine ⟨[], ?_⟩
  repeat (any_goals (first | exact True.intro | exact rfl | with_reducible_and_instances rfl | exact (by kernel_rfl) | refine And.intro ?_ ?_))
  all_goals conv => whnf
theorem refGaps_sat (s : CSt) (stamp : Int) (h1 : -9223372036854775808 ≤ stamp) (h2 : stamp ≤ 9223372036854775807) (hn : s.list.length ≤ 1000) : Sat Try.prog 49 [.ptr 0 0, iA stamp] [rO s] (.own 1) [rO s, .sl 2 ((s.list.map fun x => gapOf x stamp s.rho).map gR)] := by
  have hm : (s.list.map sR).length = s.list.length := List.length_map _
  refine sat_of_vc (T := tiOf Try.prog) (E := E0) Try.func49 rfl rfl hE0 hm0 rfl ?_
  conv => whnf
  repeat (any_goals (first
    | exact True.intro
    | (refine Or.inl ?_; conv => whnf)
    | (refine And.intro (fun _ => ?_) tf; conv => whnf)
    | (refine And.intro ft (fun _ => ?_); conv => whnf)
    | (refine And.intro (by kernel_rfl) ?_; conv => whnf)
    | (refine And.intro (by decide) ?_; conv => whnf)
    | (refine And.intro (fun _ => ?_) (fun h => absurd h (by decide)); conv => whnf)
    | (refine And.intro (fun h => absurd h (by decide)) (fun _ => ?_); conv => whnf)
    | (refine And.intro (fun _ => ?_) (fun _ => ?_) <;> conv => whnf)))
  refine ⟨Nat, fun k => k ≤ s.list.length, fun k => ([(6, iA k), (5, .own 1), (0, .ptr 0 0), (1, iA stamp)], [rO s, .sl 2 (((s.list.take k).map fun x => gapOf x stamp s.rho).map gR)]), fun k => s.list.length - k, ⟨0, Nat.zero_le _, ?_⟩, ?_⟩
  · all_goals refine ⟨[], ?_⟩
    repeat (any_goals (first | exact True.intro | exact rfl | with_reducible_and_instances rfl | exact (by kernel_rfl) | refine And.intro ?_ ?_))
    all_goals conv => whnf
  intro k hk
  conv => whnf
  by_cases hlt : k < s.list.length
  · have hx : s.list[k]? = some s.list[k] := List.getElem?_eq_getElem hlt
    generalize s.list[k] = x at hx
    have at1 := refAt_sat x stamp s.rho h1 h2
    repeat (any_goals (first
      | exact True.intro
      | (refine Or.inl ?_; conv => whnf)
      | (refine And.intro (fun _ => ?_) tf; conv => whnf)
      | (refine And.intro ft (fun _ => ?_); conv => whnf)
      | (refine And.intro (by kernel_rfl) ?_; conv => whnf)
      | (refine And.intro (by decide) ?_; conv => whnf)
      | (refine And.intro (fun _ => ?_) (fun h => absurd h (by decide)); conv => whnf)
      | (refine And.intro (fun h => absurd h (by decide)) (fun _ => ?_); conv => whnf)
      | (refine ⟨k, _, rfl, map_get hx, ?_⟩; conv => whnf)
      | (refine And.intro (fun _ => ?_) (fun _ => ?_) <;> conv => whnf)
      | (refine ⟨_, _, at1.pu rfl rfl, ?_⟩; conv => whnf)
      | (refine ⟨_, _, ap 2 16 (by kernel_rfl) rfl rfl (by simp; omega), ?_⟩; conv => whnf)))
    all_goals try (exfalso; simp only [decide_eq_true_eq, decide_eq_false_iff_not, Bool.not_eq_true', Bool.not_eq_false', Bool.not_eq_true, Bool.not_eq_false, beq_iff_eq, bne_iff_ne, beq_eq_false_iff_ne, bne_eq_false_iff_eq, ne_eq, Decidable.not_not] at *; first | omega | contradiction | (simp_all; done) | (simp_all; omega))
    · have hg : gapOf x stamp s.rho = (1, 0) := by unfold gapOf; rw [if_neg (by (try simp only [decide_eq_true_eq, decide_eq_false_iff_not, Bool.not_eq_true', Bool.not_eq_false', Bool.not_eq_true, Bool.not_eq_false, beq_iff_eq, bne_iff_ne, beq_eq_false_iff_ne, bne_eq_false_iff_eq, ne_eq, Decidable.not_not, Int.natCast_eq_zero] at *); first | omega | assumption | (simp_all; done) | (simp_all; omega))]
      refine ⟨k + 1, hlt, show s.list.length - (k + 1) < s.list.length - k by omega, ?_⟩
      all_goals refine ⟨[(1, 4)], ?_⟩
      repeat (any_goals (first | exact True.intro | exact rfl | with_reducible_and_instances rfl | exact (by kernel_rfl) | refine And.intro ?_ ?_))
      all_goals conv => whnf
      · exact wk1 (by omega)
      · rw [map_take_succ hx, List.map_append, hg]; rfl
    · have hg : gapOf x stamp s.rho = (atR x stamp s.rho).1 := by unfold gapOf; rw [if_pos (by (try simp only [decide_eq_true_eq, decide_eq_false_iff_not, Bool.not_eq_true', Bool.not_eq_false', Bool.not_eq_true, Bool.not_eq_false, beq_iff_eq, bne_iff_ne, beq_eq_false_iff_ne, bne_eq_false_iff_eq, ne_eq, Decidable.not_not, Int.natCast_eq_zero] at *); first | omega | assumption | (simp_all; done) | (simp_all; omega))]
      refine ⟨k + 1, hlt, show s.list.length - (k + 1) < s.list.length - k by omega, ?_⟩
      all_goals refine ⟨[(1, 4)], ?_⟩
      repeat (any_goals (first | exact True.intro | exact rfl | with_reducible_and_instances rfl | exact (by kernel_rfl) | refine And.intro ?_ ?_))
      all_goals conv => whnf
      · exact wk1 (by omega)
      · rw [map_take_succ hx, List.map_append, hg]; rfl
  · have hke : k = s.list.length := by omega
    subst hke
    repeat (any_goals (first
      | exact True.intro
      | (refine Or.inl ?_; conv => whnf)
      | (refine And.intro (fun _ => ?_) tf; conv => whnf)
      | (refine And.intro ft (fun _ => ?_); conv => whnf)
      | (refine And.intro (by kernel_rfl) ?_; conv => whnf)
      | (refine And.intro (by decide) ?_; conv => whnf)
      | (refine And.intro (fun _ => ?_) (fun h => absurd h (by decide)); conv => whnf)
      | (refine And.intro (fun h => absurd h (by decide)) (fun _ => ?_); conv => whnf)
      | (refine And.intro (fun _ => ?_) (fun _ => ?_) <;> conv => whnf)))
    all_goals try (exfalso; simp only [decide_eq_true_eq, decide_eq_false_iff_not, Bool.not_eq_true', Bool.not_eq_false', Bool.not_eq_true, Bool.not_eq_false, beq_iff_eq, bne_iff_ne, beq_eq_false_iff_ne, bne_eq_false_iff_eq, ne_eq, Decidable.not_not] at *; first | omega | contradiction | (simp_all; done) | (simp_all; omega))
    rw [List.take_length]
    all_goals refine ⟨[], ?_⟩
    repeat (any_goals (first | exact True.intro | exact rfl | with_reducible_and_instances rfl | exact (by kernel_rfl) | refine And.intro ?_ ?_))
    all_goals conv => whnf
def raddC (s : CSt) (x : Smp) : CSt × Nat :=
  if okS x = false then (s, 10) else
    let l := keepC (s.list ++ [x])
    if agreeRef (l.map fun o => gapOf o x.sent s.rho) = true then (⟨s.rho, s.least, if s.least ≤ s.streak + 1 then false else s.held, s.streak + 1, l⟩, 0)
    else (⟨s.rho, s.least, true, 0, if (atR x x.sent s.rho).2 = 0 then [x] else []⟩, 21)
theorem refAdd_sat (s : CSt) (x : Smp) (hn : s.list.length ≤ 8) (hs : 0 ≤ s.streak ∧ s.streak ≤ 1000000) : Sat Try.prog 16 [.ptr 0 0, sA x] [rO s] (iA (raddC s x).2) [rO (raddC s x).1] := by
  have hm : (s.list.map sR).length = s.list.length := List.length_map _
  have ok := refOkS_sat x
  by_cases h0 : okS x = true
  case neg =>
    have h0 : okS x = false := by simpa using h0
    have hr : raddC s x = (s, 10) := if_pos h0
    rw [hr]
    refine sat_of_vc (T := tiOf Try.prog) (E := E0) Try.func16 rfl rfl hE0 hm0 rfl ?_
    conv => whnf
    repeat (any_goals (first
      | exact True.intro
      | (refine Or.inl ?_; conv => whnf)
      | (refine And.intro (fun _ => ?_) tf; conv => whnf)
      | (refine And.intro ft (fun _ => ?_); conv => whnf)
      | (refine And.intro (by kernel_rfl) ?_; conv => whnf)
      | (refine And.intro (by decide) ?_; conv => whnf)
      | (refine And.intro (fun _ => ?_) (fun h => absurd h (by decide)); conv => whnf)
      | (refine And.intro (fun h => absurd h (by decide)) (fun _ => ?_); conv => whnf)
      | (refine And.intro (fun _ => ?_) (fun _ => ?_) <;> conv => whnf)
      | (refine ⟨_, _, ok.pu rfl rfl, ?_⟩; conv => whnf)))
    all_goals try (exfalso; simp only [decide_eq_true_eq, decide_eq_false_iff_not, Bool.not_eq_true', Bool.not_eq_false', Bool.not_eq_true, Bool.not_eq_false, beq_iff_eq, bne_iff_ne, beq_eq_false_iff_ne, bne_eq_false_iff_eq, ne_eq, Decidable.not_not] at *; first | omega | contradiction | (simp_all; done) | (simp_all; omega))
    all_goals refine ⟨[], ?_⟩
    repeat (any_goals (first | exact True.intro | exact rfl | with_reducible_and_instances rfl | exact (by kernel_rfl) | refine And.intro ?_ ?_))
    all_goals conv => whnf
  have hT : 0 ≤ x.sent ∧ x.sent ≤ 4611686018427387903 := by simp [okS, isT] at h0; omega
  have hll : (keepC (s.list ++ [x])).length ≤ 8 := by unfold keepC; split <;> simp at * <;> omega
  refine sat_of_vc (T := tiOf Try.prog) (E := E0) Try.func16 rfl rfl hE0 hm0 rfl ?_
  conv => whnf
  repeat (any_goals (first
    | exact True.intro
    | (refine And.intro (fun _ => ?_) tf; conv => whnf)
    | (refine And.intro ft (fun _ => ?_); conv => whnf)
    | (refine And.intro (by kernel_rfl) ?_; conv => whnf)
    | (refine And.intro (by decide) ?_; conv => whnf)
    | (refine And.intro (fun _ => ?_) (fun h => absurd h (by decide)); conv => whnf)
    | (refine And.intro (fun h => absurd h (by decide)) (fun _ => ?_); conv => whnf)
    | (refine And.intro (fun _ => ?_) (fun _ => ?_) <;> conv => whnf)))
  all_goals try (refine Or.inl ?_; conv => whnf)
  repeat (any_goals (first
    | exact True.intro
    | (refine And.intro (fun _ => ?_) tf; conv => whnf)
    | (refine And.intro ft (fun _ => ?_); conv => whnf)
    | (refine And.intro (by kernel_rfl) ?_; conv => whnf)
    | (refine And.intro (by decide) ?_; conv => whnf)
    | (refine And.intro (fun _ => ?_) (fun h => absurd h (by decide)); conv => whnf)
    | (refine And.intro (fun h => absurd h (by decide)) (fun _ => ?_); conv => whnf)
    | (refine And.intro (fun _ => ?_) (fun _ => ?_) <;> conv => whnf)
    | (refine ⟨_, _, ok.pu rfl rfl, ?_⟩; conv => whnf)
    | (refine ⟨_, _, apd 4 32 (by kernel_rfl) rfl (by simp; omega), ?_⟩; conv => whnf)
    | (refine ⟨_, _, ap 4 32 (by kernel_rfl) rfl rfl (by simp; omega), ?_⟩; conv => whnf)))
  all_goals try (exfalso; simp only [decide_eq_true_eq, decide_eq_false_iff_not, Bool.not_eq_true', Bool.not_eq_false', Bool.not_eq_true, Bool.not_eq_false, beq_iff_eq, bne_iff_ne, beq_eq_false_iff_ne, bne_eq_false_iff_eq, ne_eq, Decidable.not_not] at *; first | omega | contradiction | (simp_all; done) | (simp_all; omega))
  have hl1 : [] ++ s.list.map sR ++ [sR x] = (s.list ++ [x]).map sR := by rw [List.nil_append, List.map_append]; rfl
  have hl2 : ((s.list ++ [x]).map sR).length = (s.list ++ [x]).length := List.length_map _
  refine Or.inr ⟨Unit, fun _ => True, fun _ => ([(0, .ptr 0 0), (3, .ptr 1 0)], [.cells [iA s.rho, iA s.least, bA s.held, iA s.streak, .d (.sl 4 ((keepC (s.list ++ [x])).map sR))], .cells [iA x.asked, iA x.got, iA x.sent, iA x.came]]), ?_, fun _ _ => ?_⟩
  · repeat (any_goals (first
      | exact True.intro
      | (refine And.intro (fun _ => ?_) tf; conv => whnf)
      | (refine And.intro ft (fun _ => ?_); conv => whnf)
      | (refine And.intro (by kernel_rfl) ?_; conv => whnf)
      | (refine And.intro (by decide) ?_; conv => whnf)
      | (refine And.intro (fun _ => ?_) (fun h => absurd h (by decide)); conv => whnf)
      | (refine And.intro (fun h => absurd h (by decide)) (fun _ => ?_); conv => whnf)
      | (refine ⟨_, _, from_o 4 32 (by kernel_rfl) rfl (by simp), ?_⟩; conv => whnf)
      | (refine And.intro (fun _ => ?_) (fun _ => ?_) <;> conv => whnf)))
    · have h := of_decide_eq_true ‹decide (_ > _) = true›
      rw [hl1, hl2] at h
      have hk : keepC (s.list ++ [x]) = (s.list ++ [x]).drop 1 := by unfold keepC; rw [if_pos (by omega)]
      refine ⟨(), trivial, ?_⟩
      rw [hk]
      all_goals refine ⟨[], ?_⟩
      repeat (any_goals (first | exact True.intro | exact rfl | with_reducible_and_instances rfl | exact (by kernel_rfl) | refine And.intro ?_ ?_))
      all_goals conv => whnf
      all_goals rw [hl1, List.map_drop]
    · have h := of_decide_eq_false ‹decide (_ > _) = false›
      rw [hl1, hl2] at h
      have hk : keepC (s.list ++ [x]) = s.list ++ [x] := by unfold keepC; rw [if_neg (by omega)]
      refine ⟨(), trivial, ?_⟩
      rw [hk]
      all_goals refine ⟨[], ?_⟩
      repeat (any_goals (first | exact True.intro | exact rfl | with_reducible_and_instances rfl | exact (by kernel_rfl) | refine And.intro ?_ ?_))
      all_goals conv => whnf
      rw [← hl1]
  · have hr : raddC s x = if agreeRef ((keepC (s.list ++ [x])).map fun o => gapOf o x.sent s.rho) = true then (⟨s.rho, s.least, if s.least ≤ s.streak + 1 then false else s.held, s.streak + 1, keepC (s.list ++ [x])⟩, 0)
      else (⟨s.rho, s.least, true, 0, if (atR x x.sent s.rho).2 = 0 then [x] else []⟩, 21) := by unfold raddC; rw [if_neg (by simp [h0])]
    rw [hr]
    generalize keepC (s.list ++ [x]) = l at *
    have ga := refGaps_sat ⟨s.rho, s.least, s.held, s.streak, l⟩ x.sent (by omega) (by omega) (by show l.length ≤ 1000; omega)
    have ag := refAgree_sat (l.map fun o => gapOf o x.sent s.rho) (by simp; omega)
    have at1 := refAt_sat x x.sent s.rho (by omega) (by omega)
    conv => whnf
    have hw : IntKind.i64.wrap (s.streak + 1) = s.streak + 1 := wi (by omega) (by omega)
    repeat (any_goals (first
      | exact True.intro
      | (refine Or.inl ?_; conv => whnf)
      | (refine And.intro (fun _ => ?_) tf; conv => whnf)
      | (refine And.intro ft (fun _ => ?_); conv => whnf)
      | (refine And.intro (by kernel_rfl) ?_; conv => whnf)
      | (refine And.intro (by decide) ?_; conv => whnf)
      | (refine And.intro (fun _ => ?_) (fun h => absurd h (by decide)); conv => whnf)
      | (refine And.intro (fun h => absurd h (by decide)) (fun _ => ?_); conv => whnf)
      | (refine And.intro (fun _ => ?_) (fun _ => ?_) <;> conv => whnf)
      | (refine ⟨_, _, ga.at1 0 rfl rfl rfl, ?_⟩; conv => whnf)
      | (refine ⟨_, _, lendO ag rfl rfl, ?_⟩; conv => whnf)
      | (refine ⟨_, _, at1.pu rfl rfl, ?_⟩; conv => whnf)))
    all_goals try (exfalso; simp only [decide_eq_true_eq, decide_eq_false_iff_not, Bool.not_eq_true', Bool.not_eq_false', Bool.not_eq_true, Bool.not_eq_false, beq_iff_eq, bne_iff_ne, beq_eq_false_iff_ne, bne_eq_false_iff_eq, ne_eq, Decidable.not_not] at *; first | omega | contradiction | (simp_all; done) | (simp_all; omega))
    · have hg := of_decide_eq_true ‹decide (_ ≥ _) = true›
      rw [hw] at hg
      rw [if_pos ‹agreeRef _ = true›, if_pos hg]
      all_goals refine ⟨[], ?_⟩
      repeat (any_goals (first | exact True.intro | exact rfl | with_reducible_and_instances rfl | exact (by kernel_rfl) | refine And.intro ?_ ?_))
      all_goals conv => whnf
      all_goals rw [hw]
    · have hg := of_decide_eq_false ‹decide (_ ≥ _) = false›
      rw [hw] at hg
      rw [if_pos ‹agreeRef _ = true›, if_neg hg]
      all_goals refine ⟨[], ?_⟩
      repeat (any_goals (first | exact True.intro | exact rfl | with_reducible_and_instances rfl | exact (by kernel_rfl) | refine And.intro ?_ ?_))
      all_goals conv => whnf
      all_goals rw [hw]
    · rw [if_neg (by rw [‹agreeRef _ = false›]; simp), if_pos (by (try simp only [decide_eq_true_eq, decide_eq_false_iff_not, Bool.not_eq_true', Bool.not_eq_false', Bool.not_eq_true, Bool.not_eq_false, beq_iff_eq, bne_iff_ne, beq_eq_false_iff_ne, bne_eq_false_iff_eq, ne_eq, Decidable.not_not, Int.natCast_eq_zero] at *); first | omega | assumption | (simp_all; done) | (simp_all; omega))]
      all_goals refine ⟨[], ?_⟩
      repeat (any_goals (first | exact True.intro | exact rfl | with_reducible_and_instances rfl | exact (by kernel_rfl) | refine And.intro ?_ ?_))
      all_goals conv => whnf
    · rw [if_neg (by rw [‹agreeRef _ = false›]; simp), if_neg (by (try simp only [decide_eq_true_eq, decide_eq_false_iff_not, Bool.not_eq_true', Bool.not_eq_false', Bool.not_eq_true, Bool.not_eq_false, beq_iff_eq, bne_iff_ne, beq_eq_false_iff_ne, bne_eq_false_iff_eq, ne_eq, Decidable.not_not, Int.natCast_eq_zero] at *); first | omega | assumption | (simp_all; done) | (simp_all; omega))]
      all_goals refine ⟨[], ?_⟩
      repeat (any_goals (first | exact True.intro | exact rfl | with_reducible_and_instances rfl | exact (by kernel_rfl) | refine And.intro ?_ ?_))
      all_goals conv => whnf
def ratC (s : CSt) (stamp : Int) : (Int × Int) × Nat :=
  if s.list = [] then ((0, 0), 19) else if isT stamp = false then ((0, 0), 11) else
    if (meetR (s.list.map fun x => gapOf x stamp s.rho)).2 = 0 then meetR (s.list.map fun x => gapOf x stamp s.rho) else ((0, 0), 13)
theorem refClkAt_sat (s : CSt) (stamp : Int) (h1 : -9223372036854775808 ≤ stamp) (h2 : stamp ≤ 9223372036854775807) (hn : s.list.length ≤ 8) : Sat Try.prog 20 [.ptr 0 0, iA stamp] [rO s] (.tup [gA (ratC s stamp).1, iA (ratC s stamp).2]) [rO s] := by
  have hm : (s.list.map sR).length = s.list.length := List.length_map _
  have ti := refTime_sat stamp
  have ga := refGaps_sat s stamp h1 h2 (by omega)
  have me := refMeet_sat (s.list.map fun x => gapOf x stamp s.rho) (by simp; omega)
  refine sat_of_vc (T := tiOf Try.prog) (E := E0) Try.func20 rfl rfl hE0 hm0 rfl ?_
  conv => whnf
  repeat (any_goals (first
    | exact True.intro
    | (refine Or.inl ?_; conv => whnf)
    | (refine And.intro (fun _ => ?_) tf; conv => whnf)
    | (refine And.intro ft (fun _ => ?_); conv => whnf)
    | (refine And.intro (by kernel_rfl) ?_; conv => whnf)
    | (refine And.intro (by decide) ?_; conv => whnf)
    | (refine And.intro (fun _ => ?_) (fun h => absurd h (by decide)); conv => whnf)
    | (refine And.intro (fun h => absurd h (by decide)) (fun _ => ?_); conv => whnf)
    | (refine And.intro (fun _ => ?_) (fun _ => ?_) <;> conv => whnf)
    | (refine ⟨_, _, ti.pu rfl rfl, ?_⟩; conv => whnf)
    | (refine ⟨_, _, ga.at1 0 rfl rfl rfl, ?_⟩; conv => whnf)
    | (refine ⟨_, _, lendO me rfl rfl, ?_⟩; conv => whnf)))
  all_goals try (exfalso; simp only [decide_eq_true_eq, decide_eq_false_iff_not, Bool.not_eq_true', Bool.not_eq_false', Bool.not_eq_true, Bool.not_eq_false, beq_iff_eq, bne_iff_ne, beq_eq_false_iff_ne, bne_eq_false_iff_eq, ne_eq, Decidable.not_not] at *; first | omega | contradiction | (simp_all; done) | (simp_all; omega))
  · have h0 : s.list = [] := List.eq_nil_of_length_eq_zero (by (try simp only [decide_eq_true_eq, decide_eq_false_iff_not, Bool.not_eq_true', Bool.not_eq_false', Bool.not_eq_true, Bool.not_eq_false, beq_iff_eq, bne_iff_ne, beq_eq_false_iff_ne, bne_eq_false_iff_eq, ne_eq, Decidable.not_not, Int.natCast_eq_zero] at *); first | omega | assumption | (simp_all; done) | (simp_all; omega))
    rw [show ratC s stamp = ((0, 0), 19) from if_pos h0]
    all_goals refine ⟨[], ?_⟩
    repeat (any_goals (first | exact True.intro | exact rfl | with_reducible_and_instances rfl | exact (by kernel_rfl) | refine And.intro ?_ ?_))
    all_goals conv => whnf
  all_goals have h0 : s.list ≠ [] := fun e => by have h : ¬ (s.list.map sR).length = 0 := (by simp only [beq_eq_false_iff_ne, ne_eq] at *; omega); rw [hm, e] at h; exact h rfl
  · rw [show ratC s stamp = ((0, 0), 11) from by unfold ratC; rw [if_neg h0, if_pos (by (try simp only [decide_eq_true_eq, decide_eq_false_iff_not, Bool.not_eq_true', Bool.not_eq_false', Bool.not_eq_true, Bool.not_eq_false, beq_iff_eq, bne_iff_ne, beq_eq_false_iff_ne, bne_eq_false_iff_eq, ne_eq, Decidable.not_not, Int.natCast_eq_zero] at *); first | omega | assumption | (simp_all; done) | (simp_all; omega))]]
    all_goals refine ⟨[], ?_⟩
    repeat (any_goals (first | exact True.intro | exact rfl | with_reducible_and_instances rfl | exact (by kernel_rfl) | refine And.intro ?_ ?_))
    all_goals conv => whnf
  · rw [show ratC s stamp = ((0, 0), 13) from by unfold ratC; rw [if_neg h0, if_neg (by simp_all), if_neg (by (try simp only [decide_eq_true_eq, decide_eq_false_iff_not, Bool.not_eq_true', Bool.not_eq_false', Bool.not_eq_true, Bool.not_eq_false, beq_iff_eq, bne_iff_ne, beq_eq_false_iff_ne, bne_eq_false_iff_eq, ne_eq, Decidable.not_not, Int.natCast_eq_zero] at *); first | omega | assumption | (simp_all; done) | (simp_all; omega))]]
    all_goals refine ⟨[], ?_⟩
    repeat (any_goals (first | exact True.intro | exact rfl | with_reducible_and_instances rfl | exact (by kernel_rfl) | refine And.intro ?_ ?_))
    all_goals conv => whnf
  · rw [show ratC s stamp = meetR (s.list.map fun x => gapOf x stamp s.rho) from by unfold ratC; rw [if_neg h0, if_neg (by simp_all), if_pos (by (try simp only [decide_eq_true_eq, decide_eq_false_iff_not, Bool.not_eq_true', Bool.not_eq_false', Bool.not_eq_true, Bool.not_eq_false, beq_iff_eq, bne_iff_ne, beq_eq_false_iff_ne, bne_eq_false_iff_eq, ne_eq, Decidable.not_not, Int.natCast_eq_zero] at *); first | omega | assumption | (simp_all; done) | (simp_all; omega))]]
    have h : (meetR (s.list.map fun x => gapOf x stamp s.rho)).2 = 0 := (by (try simp only [decide_eq_true_eq, decide_eq_false_iff_not, Bool.not_eq_true', Bool.not_eq_false', Bool.not_eq_true, Bool.not_eq_false, beq_iff_eq, bne_iff_ne, beq_eq_false_iff_ne, bne_eq_false_iff_eq, ne_eq, Decidable.not_not, Int.natCast_eq_zero] at *); first | omega | assumption | (simp_all; done) | (simp_all; omega))
    rw [h]
    all_goals refine ⟨[], ?_⟩
    repeat (any_goals (first | exact True.intro | exact rfl | with_reducible_and_instances rfl | exact (by kernel_rfl) | refine And.intro ?_ ?_))
    all_goals conv => whnf
end Go.Proofs.Ytgidaifoiljgoaa
/- ClockMeets, by conditions. -/
namespace Go.Proofs.Ytgidaifoiljgoaa
set_option linter.unusedSimpArgs false
set_option linter.unusedVariables false
open Go.RowKit
set_option maxRecDepth 100000
theorem within_sat (g o : Int × Int) : Sat Try.prog 30 [gA g, gA o] [] (bA (withB g o)) [] := by
  refine sat_of_vc (T := tiOf Try.prog) (E := E0) Try.func30 rfl rfl hE0 hm0 rfl ?_
  conv => whnf
  repeat (any_goals (first
    | exact True.intro
    | (refine Or.inl ?_; conv => whnf)
    | (refine And.intro (fun _ => ?_) tf; conv => whnf)
    | (refine And.intro ft (fun _ => ?_); conv => whnf)
    | (refine And.intro (by kernel_rfl) ?_; conv => whnf)
    | (refine And.intro (by decide) ?_; conv => whnf)
    | (refine And.intro (fun _ => ?_) (fun h => absurd h (by decide)); conv => whnf)
    | (refine And.intro (fun h => absurd h (by decide)) (fun _ => ?_); conv => whnf)
    | (refine And.intro (fun _ => ?_) (fun _ => ?_) <;> conv => whnf)
    | (refine ⟨_, _, (gapRight_sat _).pu rfl rfl, ?_⟩; conv => whnf)))
  all_goals refine ⟨[], ?_⟩
  repeat (any_goals (first | exact True.intro | exact rfl | with_reducible_and_instances rfl | exact (by kernel_rfl) | refine And.intro ?_ ?_))
  all_goals conv => whnf
  all_goals first | (simp_all [withB]; done) | (simp_all [withB]; omega)
theorem addC_next {s : CSt} {rho least : Int} {k : Nat} (I : CInv s rho least k) (x : Smp) (hk : k ≤ 1000000) : CInv (addC s x).1 rho least (k + 1) := by
  rcases addC_ways s x I hk with ⟨_, h⟩ | ⟨_, _, _, _, h⟩ | ⟨_, _, _, _, h⟩
  · rw [h]; exact ⟨I.r, I.l, I.s0, by have := I.s1; show s.streak ≤ _; omega, I.n8, I.ns⟩
  · exact h
  · exact h
theorem meets_sat (rho stamp : Int) (l : List Smp) (m : Smp) (hst : in64 stamp) : Sat Try.prog 6 [iA rho, .d (.sl 4 (l.map sR)), sA m, iA stamp] [] (bA true) [] := by
  by_cases h60 : 60 < l.length
  · refine sat_of_vc (T := tiOf Try.prog) (E := E0) Try.func6 rfl rfl hE0 hm0 rfl ?_
    conv => whnf
    repeat (any_goals (first
      | exact True.intro
      | (refine Or.inl ?_; conv => whnf)
      | (refine And.intro (fun _ => ?_) tf; conv => whnf)
      | (refine And.intro ft (fun _ => ?_); conv => whnf)
      | (refine And.intro (by kernel_rfl) ?_; conv => whnf)
      | (refine And.intro (by decide) ?_; conv => whnf)
      | (refine And.intro (fun _ => ?_) (fun h => absurd h (by decide)); conv => whnf)
      | (refine And.intro (fun h => absurd h (by decide)) (fun _ => ?_); conv => whnf)
      | (refine And.intro (fun _ => ?_) (fun _ => ?_) <;> conv => whnf)
      | (refine ⟨_, _, alive_sat.pu rfl rfl, ?_⟩; conv => whnf)))
    all_goals try (exfalso; simp only [decide_eq_true_eq, decide_eq_false_iff_not, Bool.not_eq_true', Bool.not_eq_false', Bool.not_eq_true, Bool.not_eq_false, beq_iff_eq, bne_iff_ne, beq_eq_false_iff_ne, bne_eq_false_iff_eq, ne_eq, Decidable.not_not] at *; first | omega | contradiction | (simp_all; done) | (simp_all; omega))
    all_goals refine ⟨[], ?_⟩
    repeat (any_goals (first | exact True.intro | exact rfl | with_reducible_and_instances rfl | exact (by kernel_rfl) | refine And.intro ?_ ?_))
    all_goals conv => whnf
  by_cases hok : okRate rho = true
  · have n1 := new_ok rho 2 hok (by omega) (by omega)
    refine sat_of_vc (T := tiOf Try.prog) (E := E0) Try.func6 rfl rfl hE0 hm0 rfl ?_
    conv => whnf
    repeat (any_goals (first
      | exact True.intro
      | (refine And.intro (fun _ => ?_) tf; conv => whnf)
      | (refine And.intro ft (fun _ => ?_); conv => whnf)
      | (refine And.intro (by kernel_rfl) ?_; conv => whnf)
      | (refine And.intro (by decide) ?_; conv => whnf)
      | (refine And.intro (fun _ => ?_) (fun h => absurd h (by decide)); conv => whnf)
      | (refine And.intro (fun h => absurd h (by decide)) (fun _ => ?_); conv => whnf)
      | (refine And.intro (fun _ => ?_) (fun _ => ?_) <;> conv => whnf)))
    all_goals try (refine Or.inl ?_; conv => whnf)
    repeat (any_goals (first
      | exact True.intro
      | (refine And.intro (fun _ => ?_) tf; conv => whnf)
      | (refine And.intro ft (fun _ => ?_); conv => whnf)
      | (refine And.intro (by kernel_rfl) ?_; conv => whnf)
      | (refine And.intro (by decide) ?_; conv => whnf)
      | (refine And.intro (fun _ => ?_) (fun h => absurd h (by decide)); conv => whnf)
      | (refine And.intro (fun h => absurd h (by decide)) (fun _ => ?_); conv => whnf)
      | (refine And.intro (fun _ => ?_) (fun _ => ?_) <;> conv => whnf)
      | (refine ⟨_, _, alive_sat.pu rfl rfl, ?_⟩; conv => whnf)))
    all_goals try (refine Or.inl ?_; conv => whnf)
    repeat (any_goals (first
      | exact True.intro
      | (refine And.intro (fun _ => ?_) tf; conv => whnf)
      | (refine And.intro ft (fun _ => ?_); conv => whnf)
      | (refine And.intro (by kernel_rfl) ?_; conv => whnf)
      | (refine And.intro (by decide) ?_; conv => whnf)
      | (refine And.intro (fun _ => ?_) (fun h => absurd h (by decide)); conv => whnf)
      | (refine And.intro (fun h => absurd h (by decide)) (fun _ => ?_); conv => whnf)
      | (refine And.intro (fun _ => ?_) (fun _ => ?_) <;> conv => whnf)))
    all_goals try (exfalso; simp only [decide_eq_true_eq, decide_eq_false_iff_not, Bool.not_eq_true', Bool.not_eq_false', Bool.not_eq_true, Bool.not_eq_false, beq_iff_eq, bne_iff_ne, beq_eq_false_iff_ne, bne_eq_false_iff_eq, ne_eq, Decidable.not_not] at *; first | omega | contradiction | (simp_all; done) | (simp_all; omega))
    all_goals try (refine Or.inl ?_; conv => whnf)
    repeat (any_goals (first
      | exact True.intro
      | (refine And.intro (fun _ => ?_) tf; conv => whnf)
      | (refine And.intro ft (fun _ => ?_); conv => whnf)
      | (refine And.intro (by kernel_rfl) ?_; conv => whnf)
      | (refine And.intro (by decide) ?_; conv => whnf)
      | (refine And.intro (fun _ => ?_) (fun h => absurd h (by decide)); conv => whnf)
      | (refine And.intro (fun h => absurd h (by decide)) (fun _ => ?_); conv => whnf)
      | (refine And.intro (fun _ => ?_) (fun _ => ?_) <;> conv => whnf)
      | (refine ⟨_, _, n1.nw rfl, ?_⟩; conv => whnf)))
    all_goals try (refine Or.inl ?_; conv => whnf)
    repeat (any_goals (first
      | exact True.intro
      | (refine And.intro (fun _ => ?_) tf; conv => whnf)
      | (refine And.intro ft (fun _ => ?_); conv => whnf)
      | (refine And.intro (by kernel_rfl) ?_; conv => whnf)
      | (refine And.intro (by decide) ?_; conv => whnf)
      | (refine And.intro (fun _ => ?_) (fun h => absurd h (by decide)); conv => whnf)
      | (refine And.intro (fun h => absurd h (by decide)) (fun _ => ?_); conv => whnf)
      | (refine And.intro (fun _ => ?_) (fun _ => ?_) <;> conv => whnf)
      | (refine ⟨_, _, eqP (by kernel_rfl), ?_⟩; conv => whnf)))
    all_goals try (exfalso; simp only [decide_eq_true_eq, decide_eq_false_iff_not, Bool.not_eq_true', Bool.not_eq_false', Bool.not_eq_true, Bool.not_eq_false, beq_iff_eq, bne_iff_ne, beq_eq_false_iff_ne, bne_eq_false_iff_eq, ne_eq, Decidable.not_not] at *; first | omega | contradiction | (simp_all; done) | (simp_all; omega))
    all_goals try (refine Or.inl ?_; conv => whnf)
    repeat (any_goals (first
      | exact True.intro
      | (refine And.intro (fun _ => ?_) tf; conv => whnf)
      | (refine And.intro ft (fun _ => ?_); conv => whnf)
      | (refine And.intro (by kernel_rfl) ?_; conv => whnf)
      | (refine And.intro (by decide) ?_; conv => whnf)
      | (refine And.intro (fun _ => ?_) (fun h => absurd h (by decide)); conv => whnf)
      | (refine And.intro (fun h => absurd h (by decide)) (fun _ => ?_); conv => whnf)
      | (refine And.intro (fun _ => ?_) (fun _ => ?_) <;> conv => whnf)))
    all_goals try (refine Or.inl ?_; conv => whnf)
    repeat (any_goals (first
      | exact True.intro
      | (refine And.intro (fun _ => ?_) tf; conv => whnf)
      | (refine And.intro ft (fun _ => ?_); conv => whnf)
      | (refine And.intro (by kernel_rfl) ?_; conv => whnf)
      | (refine And.intro (by decide) ?_; conv => whnf)
      | (refine And.intro (fun _ => ?_) (fun h => absurd h (by decide)); conv => whnf)
      | (refine And.intro (fun h => absurd h (by decide)) (fun _ => ?_); conv => whnf)
      | (refine And.intro (fun _ => ?_) (fun _ => ?_) <;> conv => whnf)))
    refine ⟨Nat × CSt, fun y => y.1 ≤ l.length ∧ CInv y.2 rho 2 y.1 ∧ ∀ x ∈ y.2.list, okS x = true, fun y => ([(11, iA y.1), (9, .ptr 0 0), (6, .ptr 2 0), (0, iA rho), (1, .d (.sl 4 (l.map sR))), (3, iA stamp)], [cR y.2, .sl 4 (y.2.list.map sR), .cells [iA m.asked, iA m.got, iA m.sent, iA m.came]]), fun y => l.length - y.1, ⟨(0, ⟨rho, 2, false, 0, []⟩), ⟨Nat.zero_le _, ⟨rfl, rfl, Int.le_refl _, Int.le_refl _, Nat.zero_le _, show (0 : Int) ≤ 0 + 1 by omega⟩, fun x hx => by simp at hx⟩, ?_⟩, ?_⟩
    · all_goals refine ⟨[(0, 2), (0, 1)], ?_⟩
      repeat (any_goals (first | exact True.intro | exact rfl | with_reducible_and_instances rfl | exact (by kernel_rfl) | refine And.intro ?_ ?_))
      all_goals conv => whnf
    rintro ⟨k, s⟩ ⟨hk, I, hS⟩
    have hk : k ≤ l.length := hk
    have I : CInv s rho 2 k := I
    have hS : ∀ x ∈ s.list, okS x = true := hS
    conv => whnf
    by_cases hlt : k < l.length
    · have hx : l[k]? = some l[k] := List.getElem?_eq_getElem hlt
      generalize l[k] = x at hx
      have d := add_sat s x I.n8 (by have := I.s0; omega)
      repeat (any_goals (first
        | exact True.intro
        | (refine Or.inl ?_; conv => whnf)
        | (refine And.intro (fun _ => ?_) tf; conv => whnf)
        | (refine And.intro ft (fun _ => ?_); conv => whnf)
        | (refine And.intro (by kernel_rfl) ?_; conv => whnf)
        | (refine And.intro (by decide) ?_; conv => whnf)
        | (refine And.intro (fun _ => ?_) (fun h => absurd h (by decide)); conv => whnf)
        | (refine And.intro (fun h => absurd h (by decide)) (fun _ => ?_); conv => whnf)
        | (refine And.intro (fun _ => ?_) (fun h => absurd h (by simpa using hlt)); conv => whnf)
        | (refine ⟨k, _, rfl, map_get hx, ?_⟩; conv => whnf)
        | (refine And.intro (fun _ => ?_) (fun _ => ?_) <;> conv => whnf)
        | (refine ⟨_, _, d.at2 0 1 rfl rfl rfl rfl rfl, ?_⟩; conv => whnf)))
      refine ⟨(k + 1, (addC s x).1), ⟨hlt, addC_next I x (by omega), addC_okS s x hS⟩, show l.length - (k + 1) < l.length - k by omega, ?_⟩
      all_goals refine ⟨[(1, 3)], ?_⟩
      repeat (any_goals (first | exact True.intro | exact rfl | with_reducible_and_instances rfl | exact (by kernel_rfl) | refine And.intro ?_ ?_))
      all_goals conv => whnf
      exact wk1 (by omega)
    · have h8 := I.n8
      repeat (any_goals (first
        | exact True.intro
        | (refine And.intro (fun _ => ?_) tf; conv => whnf)
        | (refine And.intro ft (fun _ => ?_); conv => whnf)
        | (refine And.intro (by kernel_rfl) ?_; conv => whnf)
        | (refine And.intro (by decide) ?_; conv => whnf)
        | (refine And.intro (fun _ => ?_) (fun h => absurd h (by decide)); conv => whnf)
        | (refine And.intro (fun h => absurd h (by decide)) (fun _ => ?_); conv => whnf)
        | (refine And.intro (fun h => absurd h (by simpa using hlt)) (fun _ => ?_); conv => whnf)
        | (refine And.intro (fun _ => ?_) (fun _ => ?_) <;> conv => whnf)))
      all_goals try (exfalso; simp only [decide_eq_true_eq, decide_eq_false_iff_not, Bool.not_eq_true', Bool.not_eq_false', Bool.not_eq_true, Bool.not_eq_false, beq_iff_eq, bne_iff_ne, beq_eq_false_iff_ne, bne_eq_false_iff_eq, ne_eq, Decidable.not_not] at *; first | omega | contradiction | (simp_all; done) | (simp_all; omega))
      all_goals try (refine Or.inl ?_; conv => whnf)
      repeat (any_goals (first
        | exact True.intro
        | (refine And.intro (fun _ => ?_) tf; conv => whnf)
        | (refine And.intro ft (fun _ => ?_); conv => whnf)
        | (refine And.intro (by kernel_rfl) ?_; conv => whnf)
        | (refine And.intro (by decide) ?_; conv => whnf)
        | (refine And.intro (fun _ => ?_) (fun h => absurd h (by decide)); conv => whnf)
        | (refine And.intro (fun h => absurd h (by decide)) (fun _ => ?_); conv => whnf)
        | (refine And.intro (fun _ => ?_) (fun _ => ?_) <;> conv => whnf)
        | (refine ⟨_, _, (clkAt_sat s stamp h8).at2 0 1 rfl rfl rfl rfl rfl, ?_⟩; conv => whnf)
        | (refine ⟨_, _, (samples_sat s h8).at2 0 1 rfl rfl rfl rfl rfl, ?_⟩; conv => whnf)))
      all_goals try (refine Or.inl ?_; conv => whnf)
      repeat (any_goals (first
        | exact True.intro
        | (refine And.intro (fun _ => ?_) tf; conv => whnf)
        | (refine And.intro ft (fun _ => ?_); conv => whnf)
        | (refine And.intro (by kernel_rfl) ?_; conv => whnf)
        | (refine And.intro (by decide) ?_; conv => whnf)
        | (refine And.intro (fun _ => ?_) (fun h => absurd h (by decide)); conv => whnf)
        | (refine And.intro (fun h => absurd h (by decide)) (fun _ => ?_); conv => whnf)
        | (refine And.intro (fun _ => ?_) (fun _ => ?_) <;> conv => whnf)))
      all_goals try (exfalso; simp only [decide_eq_true_eq, decide_eq_false_iff_not, Bool.not_eq_true', Bool.not_eq_false', Bool.not_eq_true, Bool.not_eq_false, beq_iff_eq, bne_iff_ne, beq_eq_false_iff_ne, bne_eq_false_iff_eq, ne_eq, Decidable.not_not] at *; first | omega | contradiction | (simp_all; done) | (simp_all; omega))
      have hr : s.rho = rho := I.r
      subst hr
      refine ⟨Nat, fun j => j ≤ s.list.length ∧ (s.list.take j).find? (fun x => decide ((atR x stamp s.rho).2 ≠ 0)) = none, fun j => ([(16, iA j), (14, .own 4), (15, .own 5), (13, iA (atC s stamp).2), (12, .ptr 3 0), (9, .ptr 0 0), (6, .ptr 2 0), (0, iA s.rho), (3, iA stamp)], [cR s, .sl 4 (s.list.map sR), .cells [iA m.asked, iA m.got, iA m.sent, iA m.came], .cells [iA (atC s stamp).1.1, iA (atC s stamp).1.2], .sl 4 (s.list.map sR), .sl 2 (((s.list.take j).map fun x => (atR x stamp s.rho).1).map gR)]), fun j => s.list.length - j, ⟨0, ⟨Nat.zero_le _, rfl⟩, ?_⟩, ?_⟩
      · all_goals refine ⟨[], ?_⟩
        repeat (any_goals (first | exact True.intro | exact rfl | with_reducible_and_instances rfl | exact (by kernel_rfl) | refine And.intro ?_ ?_))
        all_goals conv => whnf
      rintro j ⟨hj, hf⟩
      conv => whnf
      by_cases hjl : j < s.list.length
      · have hx : s.list[j]? = some s.list[j] := List.getElem?_eq_getElem hjl
        have hxs := hS s.list[j] (List.getElem_mem hjl)
        generalize s.list[j] = x at hx hxs
        repeat (any_goals (first
          | exact True.intro
          | (refine Or.inl ?_; conv => whnf)
          | (refine And.intro (fun _ => ?_) tf; conv => whnf)
          | (refine And.intro ft (fun _ => ?_); conv => whnf)
          | (refine And.intro (by kernel_rfl) ?_; conv => whnf)
          | (refine And.intro (by decide) ?_; conv => whnf)
          | (refine And.intro (fun _ => ?_) (fun h => absurd h (by decide)); conv => whnf)
          | (refine And.intro (fun h => absurd h (by decide)) (fun _ => ?_); conv => whnf)
          | (refine And.intro (fun _ => ?_) (fun h => absurd h (by simpa using hjl)); conv => whnf)
          | (refine ⟨_, rfl, by simpa using hjl, ?_⟩; conv => whnf)
          | (refine ⟨_, map_get hx, ?_⟩; conv => whnf)
          | (refine And.intro (fun _ => ?_) (fun _ => ?_) <;> conv => whnf)
          | (refine ⟨_, _, (at_sat x stamp s.rho hst.1 hst.2).pu rfl rfl, ?_⟩; conv => whnf)
          | (refine ⟨_, _, ap 2 16 (by kernel_rfl) rfl rfl (by simp; omega), ?_⟩; conv => whnf)))
        · have hb := atC_bad hS hf hx (by (try simp only [decide_eq_true_eq, decide_eq_false_iff_not, Bool.not_eq_true', Bool.not_eq_false', Bool.not_eq_true, Bool.not_eq_false, beq_iff_eq, bne_iff_ne, beq_eq_false_iff_ne, bne_eq_false_iff_eq, ne_eq, Decidable.not_not, Int.natCast_eq_zero] at *); first | omega | assumption | (simp_all; done) | (simp_all; omega))
          all_goals refine ⟨[], ?_⟩
          repeat (any_goals (first | exact True.intro | exact rfl | with_reducible_and_instances rfl | exact (by kernel_rfl) | refine And.intro ?_ ?_))
          all_goals conv => whnf
          simp_all
          omega
        · all_goals refine ⟨[], ?_⟩
          repeat (any_goals (first | exact True.intro | exact rfl | with_reducible_and_instances rfl | exact (by kernel_rfl) | refine And.intro ?_ ?_))
          all_goals conv => whnf
        · refine ⟨j + 1, ⟨hjl, find_next hf hx (by (try simp only [decide_eq_true_eq, decide_eq_false_iff_not, Bool.not_eq_true', Bool.not_eq_false', Bool.not_eq_true, Bool.not_eq_false, beq_iff_eq, bne_iff_ne, beq_eq_false_iff_ne, bne_eq_false_iff_eq, ne_eq, Decidable.not_not, Int.natCast_eq_zero] at *); first | omega | assumption | (simp_all; done) | (simp_all; omega))⟩, show s.list.length - (j + 1) < s.list.length - j by omega, ?_⟩
          all_goals refine ⟨[(5, 8)], ?_⟩
          repeat (any_goals (first | exact True.intro | exact rfl | with_reducible_and_instances rfl | exact (by kernel_rfl) | refine And.intro ?_ ?_))
          all_goals conv => whnf
          · exact wk1 (by omega)
          · rw [map_take_succ hx, List.map_append]; rfl
      · have hjj : j = s.list.length := by omega
        subst hjj
        by_cases hne : s.list = []
        · have he : atC s stamp = ((0, 0), 19) := by unfold atC; rw [if_pos hne]
          have hlen : s.list.length = 0 := by rw [hne]; rfl
          repeat (any_goals (first
            | exact True.intro
            | (refine Or.inl ?_; conv => whnf)
            | (refine And.intro (fun _ => ?_) tf; conv => whnf)
            | (refine And.intro ft (fun _ => ?_); conv => whnf)
            | (refine And.intro (by kernel_rfl) ?_; conv => whnf)
            | (refine And.intro (by decide) ?_; conv => whnf)
            | (refine And.intro (fun _ => ?_) (fun h => absurd h (by decide)); conv => whnf)
            | (refine And.intro (fun h => absurd h (by decide)) (fun _ => ?_); conv => whnf)
            | (refine And.intro (fun h => absurd h (by first | (simp; done) | omega)) (fun _ => ?_); conv => whnf)
            | (refine And.intro (fun _ => ?_) (fun _ => ?_) <;> conv => whnf)
            | (refine ⟨_, _, lendO (meet_sat _ (by simp; omega)) rfl rfl, ?_⟩; conv => whnf)))
          all_goals try (exfalso; simp only [decide_eq_true_eq, decide_eq_false_iff_not, Bool.not_eq_true', Bool.not_eq_false', Bool.not_eq_true, Bool.not_eq_false, beq_iff_eq, bne_iff_ne, beq_eq_false_iff_ne, bne_eq_false_iff_eq, ne_eq, Decidable.not_not] at *; first | omega | contradiction | (simp_all; done) | (simp_all; omega))
          · all_goals refine ⟨[], ?_⟩
            repeat (any_goals (first | exact True.intro | exact rfl | with_reducible_and_instances rfl | exact (by kernel_rfl) | refine And.intro ?_ ?_))
            all_goals conv => whnf
            rw [he]; rfl
        · rw [List.take_length] at hf
          have he := atC_good hne hf
          have mt := meet_sat ((s.list.take s.list.length).map fun x => (atR x stamp s.rho).1) (by simp; omega)
          rw [show meetR ((s.list.take s.list.length).map fun x => (atR x stamp s.rho).1) = atC s stamp by rw [List.take_length]; exact he.symm] at mt
          have hs0 := I.s0
          have h8' := (addC_next I m (by omega)).n8
          repeat (any_goals (first
            | exact True.intro
            | (refine Or.inl ?_; conv => whnf)
            | (refine And.intro (fun _ => ?_) tf; conv => whnf)
            | (refine And.intro ft (fun _ => ?_); conv => whnf)
            | (refine And.intro (by kernel_rfl) ?_; conv => whnf)
            | (refine And.intro (by decide) ?_; conv => whnf)
            | (refine And.intro (fun _ => ?_) (fun h => absurd h (by decide)); conv => whnf)
            | (refine And.intro (fun h => absurd h (by decide)) (fun _ => ?_); conv => whnf)
            | (refine And.intro (fun h => absurd h (by first | (simp; done) | omega)) (fun _ => ?_); conv => whnf)
            | (refine And.intro (fun _ => ?_) (fun _ => ?_) <;> conv => whnf)
            | (refine ⟨_, _, lendO mt rfl rfl, ?_⟩; conv => whnf)
            | (refine ⟨_, _, neS (by kernel_rfl), ?_⟩; conv => whnf)
            | (refine ⟨_, _, (add_sat s m h8 (by omega)).at2 0 1 rfl rfl rfl rfl rfl, ?_⟩; conv => whnf)
            | (refine ⟨_, _, (clkAt_sat (addC s m).1 stamp h8').at2 0 7 rfl rfl rfl rfl rfl, ?_⟩; conv => whnf)
            | (refine ⟨_, _, (within_sat _ _).pu rfl rfl, ?_⟩; conv => whnf)))
          all_goals try (exfalso; simp only [decide_eq_true_eq, decide_eq_false_iff_not, Bool.not_eq_true', Bool.not_eq_false', Bool.not_eq_true, Bool.not_eq_false, beq_iff_eq, bne_iff_ne, beq_eq_false_iff_ne, bne_eq_false_iff_eq, ne_eq, Decidable.not_not] at *; first | omega | contradiction | (simp_all; done) | (simp_all; omega))
          · have hn8 : ¬ s.list.length = 8 := fun e => by simp_all
            rw [meets_last (s := s) (x := m) (stamp := stamp) (by (try simp only [decide_eq_true_eq, decide_eq_false_iff_not, Bool.not_eq_true', Bool.not_eq_false', Bool.not_eq_true, Bool.not_eq_false, beq_iff_eq, bne_iff_ne, beq_eq_false_iff_ne, bne_eq_false_iff_eq, ne_eq, Decidable.not_not, Int.natCast_eq_zero] at *); first | omega | assumption | (simp_all; done) | (simp_all; omega)) (by (try simp only [decide_eq_true_eq, decide_eq_false_iff_not, Bool.not_eq_true', Bool.not_eq_false', Bool.not_eq_true, Bool.not_eq_false, beq_iff_eq, bne_iff_ne, beq_eq_false_iff_ne, bne_eq_false_iff_eq, ne_eq, Decidable.not_not, Int.natCast_eq_zero] at *); first | omega | assumption | (simp_all; done) | (simp_all; omega)) (by (try simp only [decide_eq_true_eq, decide_eq_false_iff_not, Bool.not_eq_true', Bool.not_eq_false', Bool.not_eq_true, Bool.not_eq_false, beq_iff_eq, bne_iff_ne, beq_eq_false_iff_ne, bne_eq_false_iff_eq, ne_eq, Decidable.not_not, Int.natCast_eq_zero] at *); first | omega | assumption | (simp_all; done) | (simp_all; omega)) h8 hn8]
            all_goals refine ⟨[], ?_⟩
            repeat (any_goals (first | exact True.intro | exact rfl | with_reducible_and_instances rfl | exact (by kernel_rfl) | refine And.intro ?_ ?_))
            all_goals conv => whnf
          all_goals refine ⟨[], ?_⟩
          repeat (any_goals (first | exact True.intro | exact rfl | with_reducible_and_instances rfl | exact (by kernel_rfl) | refine And.intro ?_ ?_))
          all_goals conv => whnf
  · have n1 := new_err rho 2 (by simp at hok; exact .inl hok)
    refine sat_of_vc (T := tiOf Try.prog) (E := E0) Try.func6 rfl rfl hE0 hm0 rfl ?_
    conv => whnf
    repeat (any_goals (first
      | exact True.intro
      | (refine Or.inl ?_; conv => whnf)
      | (refine And.intro (fun _ => ?_) tf; conv => whnf)
      | (refine And.intro ft (fun _ => ?_); conv => whnf)
      | (refine And.intro (by kernel_rfl) ?_; conv => whnf)
      | (refine And.intro (by decide) ?_; conv => whnf)
      | (refine And.intro (fun _ => ?_) (fun h => absurd h (by decide)); conv => whnf)
      | (refine And.intro (fun h => absurd h (by decide)) (fun _ => ?_); conv => whnf)
      | (refine And.intro (fun _ => ?_) (fun _ => ?_) <;> conv => whnf)
      | (refine ⟨_, _, alive_sat.pu rfl rfl, ?_⟩; conv => whnf)
      | (refine ⟨_, _, n1.pu rfl rfl, ?_⟩; conv => whnf)
      | (refine ⟨_, _, eqN (by kernel_rfl), ?_⟩; conv => whnf)))
    all_goals try (exfalso; simp only [decide_eq_true_eq, decide_eq_false_iff_not, Bool.not_eq_true', Bool.not_eq_false', Bool.not_eq_true, Bool.not_eq_false, beq_iff_eq, bne_iff_ne, beq_eq_false_iff_ne, bne_eq_false_iff_eq, ne_eq, Decidable.not_not] at *; first | omega | contradiction | (simp_all; done) | (simp_all; omega))
    all_goals refine ⟨[], ?_⟩
    repeat (any_goals (first | exact True.intro | exact rfl | with_reducible_and_instances rfl | exact (by kernel_rfl) | refine And.intro ?_ ?_))
    all_goals conv => whnf
theorem meets_law (H : Type) (enc : TypeId × Value → H) : LawWalk H enc Try.prog 6 Try.f6 :=
  lawWalk_of_sat (by kernel_rfl) fun args h => by
    obtain ⟨a, _, rfl, h1, h⟩ := h
    obtain ⟨x, _, rfl, h2, h⟩ := h
    obtain ⟨m, _, rfl, h3, h⟩ := h
    obtain ⟨b, _, rfl, h4, h⟩ := h
    obtain rfl := h
    obtain ⟨a, rfl, _⟩ := ty_i64 h1 Try.underlying2
    obtain ⟨l, rfl, _⟩ := ty_smps h2
    obtain ⟨m, rfl, _⟩ := ty_smp h3
    obtain ⟨b, rfl, hb⟩ := ty_i64 h4 Try.underlying2
    exact meets_sat a b l m hb
end Go.Proofs.Ytgidaifoiljgoaa
/- ClockWidth, by conditions. -/
namespace Go.Proofs.Ytgidaifoiljgoaa
set_option linter.unusedSimpArgs false
set_option linter.unusedVariables false
open Go.RowKit
set_option maxRecDepth 100000
section
variable {P : Program} {L : List AObj} {ty n : Nat}
def mx2 (x y : Int) : Int := if y > x then y else x
theorem max4 {k : IntKind} {x y z u : Int} {a b c d : Operand} {ts : Array TypeId} : Does P (.call { callee := .builtin .max, args := #[a, b, c, d], argTypes := ts }) ty L n [.d (.v (.int k x)), .d (.v (.int k y)), .d (.v (.int k z)), .d (.v (.int k u))] e0 (.d (.v (.int k (mx2 (mx2 (mx2 x y) z) u)))) :=
  does_val fun o w F ρ ev ho _ hx => by
    have hops : Op.operands (.call { callee := .builtin .max, args := #[a, b, c, d], argTypes := ts }) = #[a, b, c, d] := by simp [Op.operands, Call.operands]
    rw [hops] at hx
    have hx : RAs w F ρ [.d (.v (.int k x)), .d (.v (.int k y)), .d (.v (.int k z)), .d (.v (.int k u))] [ev a, ev b, ev c, ev d] := by simpa using hx
    cases hx with | cons h1 hx =>
    cases hx with | cons h2 hx =>
    cases hx with | cons h3 hx =>
    cases hx with | cons h4 hx =>
    have h1 := h1.v_out
    have h2 := h2.v_out
    have h3 := h3.v_out
    have h4 := h4.v_out
    exact ⟨_, by simp [execOp, ho, resolve, invoke, builtin, h1, h2, h3, h4, Builtin.max_, Builtin.max2, mx2], .d (.v _)⟩
end
theorem slack_sat (a r : Int) (ha : farA a = true) (hr : okRate r = true) : Sat Try.prog 31 [iA a, iA r] [] (.tup [iA (slackZ a r), iA 0]) [] :=
  .of_calls (by repeat constructor) (by repeat constructor) fun w => slack_ok a r w ha hr
/-! ### plain -/
theorem ratN_floor (a b c : Nat) (hc : 0 < c) : ratN a b c false * c ≤ a * b := by
  unfold ratN
  simp
  exact Nat.div_mul_le_self _ _
theorem ratN_ceil (a b c : Nat) (hc : 0 < c) : a * b ≤ ratN a b c true * c := by
  rw [ratN_up _ _ _ hc]
  have h := Nat.div_add_mod (a * b + (c - 1)) c
  have hm := Nat.mod_lt (a * b + (c - 1)) hc
  rw [Nat.mul_comm ((a * b + (c - 1)) / c) c]
  omega
theorem slack_ge (far r : Int) (hr : okRate r = true) (h0 : 0 ≤ far) : far * r ≤ slackZ far r * (1000000 - r) := by
  have hr := of_decide_eq_true hr
  unfold slackZ
  have h := ratN_ceil far.toNat r.toNat (1000000 - r).toNat (by omega)
  have h' : ((far.toNat * r.toNat : Nat) : Int) ≤ ((ratN far.toNat r.toNat (1000000 - r).toNat true * (1000000 - r).toNat : Nat) : Int) := Int.ofNat_le.2 h
  rw [Int.natCast_mul, Int.natCast_mul, Int.toNat_of_nonneg h0, Int.toNat_of_nonneg hr.1, Int.toNat_of_nonneg (by omega)] at h'
  exact h'
theorem low_gap (v far r : Int) (hr : okRate r = true) (h1 : v ≤ far) (h2 : -v ≤ far) : v - lowZ v r ≤ slackZ far r + 2 := by
  have hs := slack_ge far r hr (by omega)
  have hr' := of_decide_eq_true hr
  have hS : 0 ≤ slackZ far r := by unfold slackZ; omega
  generalize slackZ far r = S at *
  have hSr : 0 ≤ S * r := Int.mul_nonneg hS hr'.1
  have e1 : S * (1000000 - r) = S * 1000000 - S * r := Int.mul_sub ..
  unfold lowZ
  split
  · rename_i hv
    have h := ratN_ceil (v - 1).toNat 1000000 (1000000 + r).toNat (by omega)
    have h' : (((v - 1).toNat * 1000000 : Nat) : Int) ≤ ((ratN (v - 1).toNat 1000000 (1000000 + r).toNat true * (1000000 + r).toNat : Nat) : Int) := Int.ofNat_le.2 h
    rw [Int.natCast_mul, Int.natCast_mul, Int.toNat_of_nonneg (by omega), Int.toNat_of_nonneg (a := 1000000 + r) (by omega)] at h'
    generalize (ratN (v - 1).toNat 1000000 (1000000 + r).toNat true : Int) = q at *
    have hq : v - q ≤ S + 2 := by
      refine Int.not_lt.1 fun hlt => ?_
      have hk : 0 ≤ (v - q - S - 3) * (1000000 + r) := Int.mul_nonneg (by omega) (by omega)
      have hvr : v * r ≤ far * r := Int.mul_le_mul_of_nonneg_right h1 hr'.1
      have e2 : (v - q - S - 3) * r = v * r - q * r - S * r - 3 * r := by rw [Int.sub_mul, Int.sub_mul, Int.sub_mul]
      rw [Int.mul_add] at hk
      have e3 : q * (1000000 + r) = q * 1000000 + q * r := Int.mul_add ..
      omega
    omega
  · rename_i hv
    have h := ratN_floor (1 - v).toNat 1000000 (1000000 - r).toNat (by omega)
    have h' : ((ratN (1 - v).toNat 1000000 (1000000 - r).toNat false * (1000000 - r).toNat : Nat) : Int) ≤ (((1 - v).toNat * 1000000 : Nat) : Int) := Int.ofNat_le.2 h
    rw [Int.natCast_mul, Int.natCast_mul, Int.toNat_of_nonneg (a := 1 - v) (by omega), Int.toNat_of_nonneg (a := 1000000 - r) (by omega)] at h'
    generalize (ratN (1 - v).toNat 1000000 (1000000 - r).toNat false : Int) = q at *
    refine Int.not_lt.1 fun hlt => ?_
    have hk : 0 ≤ (v + q - S - 3) * (1000000 - r) := Int.mul_nonneg (by omega) (by omega)
    have hvr : -v * r ≤ far * r := Int.mul_le_mul_of_nonneg_right h2 hr'.1
    have e0 : -v * r = -(v * r) := Int.neg_mul ..
    have e2 : (v + q - S - 3) * r = v * r + q * r - S * r - 3 * r := by rw [Int.sub_mul, Int.sub_mul, Int.add_mul]
    rw [Int.mul_sub] at hk
    have e3 : q * (1000000 - r) = q * 1000000 - q * r := Int.mul_sub ..
    omega
theorem meetL_le (a : Int × Int) (gs : List (Int × Int)) {x : Int × Int} (h : x ∈ gs) : x.1 ≤ (meetL a gs).1 ∧ (meetL a gs).2 ≤ x.2 := by
  have base : ∀ (gs : List (Int × Int)) (a : Int × Int), a.1 ≤ (meetL a gs).1 ∧ (meetL a gs).2 ≤ a.2 := by
    intro gs
    induction gs with
    | nil => intro a; exact ⟨Int.le_refl _, Int.le_refl _⟩
    | cons y r ih =>
      intro a
      have := ih (max a.1 y.1, min a.2 y.2)
      unfold meetL at this ⊢
      rw [List.foldl_cons]
      simp only at this
      omega
  induction gs generalizing a with
  | nil => simp at h
  | cons y r ih =>
    have e : meetL a (y :: r) = meetL (max a.1 y.1, min a.2 y.2) r := rfl
    rw [e]
    rcases List.mem_cons.1 h with q | q
    · subst q
      have := base r (max a.1 x.1, min a.2 x.2)
      simp only at this
      omega
    · exact ih _ q
def farZ (x : Smp) (stamp : Int) : Int := mx2 (mx2 (mx2 (stamp - x.got) (x.got - stamp)) (stamp - x.sent)) (x.sent - stamp)
theorem far_out (x : Smp) (stamp : Int) : stamp - x.got ≤ farZ x stamp ∧ x.got - stamp ≤ farZ x stamp ∧ stamp - x.sent ≤ farZ x stamp ∧ x.sent - stamp ≤ farZ x stamp ∧ ∀ b, stamp - x.got ≤ b → x.got - stamp ≤ b → stamp - x.sent ≤ b → x.sent - stamp ≤ b → farZ x stamp ≤ b := by
  unfold farZ mx2
  refine ⟨?_, ?_, ?_, ?_, fun b _ _ _ _ => ?_⟩ <;> (split <;> split <;> split <;> omega)
theorem width_plain (x : Smp) (stamp rho : Int) (h : (atR x stamp rho).2 = 0) : (atR x stamp rho).1.2 - (atR x stamp rho).1.1 ≤ tripZ x + 2 * slackZ (farZ x stamp) rho + 4 := by
  obtain ⟨h1, _, hr, _, e⟩ := atR_out h
  rw [e]
  unfold tripZ atLo atHi highZ
  rw [if_pos h1]
  have hf := far_out x stamp
  have g1 := low_gap (stamp - x.got) (farZ x stamp) rho hr (by omega) (by omega)
  have g2 := low_gap (-(stamp - x.sent)) (farZ x stamp) rho hr (by omega) (by omega)
  omega
theorem width_in {s : CSt} {x : Smp} {stamp : Int} (h : (atC s stamp).2 = 0) (hx : x ∈ s.list) : (atR x stamp s.rho).2 = 0 ∧ withB (atC s stamp).1 (atR x stamp s.rho).1 = true ∧ (atC s stamp).1.2 - (atC s stamp).1.1 ≤ tripZ x + 2 * slackZ (farZ x stamp) s.rho + 4 := by
  obtain ⟨_, _, hf, e⟩ := atC_zero h
  have h0 : (atR x stamp s.rho).2 = 0 := by have := List.find?_eq_none.1 hf x hx; simpa using this
  rw [e] at h ⊢
  obtain ⟨_, h2, e2⟩ := meetR_ok h
  have hm := meetL_le allG (s.list.map fun x => (atR x stamp s.rho).1) (List.mem_map.2 ⟨x, hx, rfl⟩)
  have hw := width_plain x stamp s.rho h0
  rw [e2]
  refine ⟨h0, ?_, by omega⟩
  unfold withB
  rw [h2]
  simp
  exact hm
end Go.Proofs.Ytgidaifoiljgoaa
/- The document's clock is the program's: plain laws. -/
namespace Go.Proofs.Ytgidaifoiljgoaa
set_option linter.unusedSimpArgs false
set_option linter.unusedVariables false
open Go.RowKit
theorem best_ge (gs : List (Int × Int)) : ∀ (l : List (Int × Int)) (s : Nat × Int), s.1 ≤ (l.foldl (bstep gs) s).1 ∧ ∀ g ∈ l, votesN g.1 gs ≤ (l.foldl (bstep gs) s).1
  | [], s => ⟨Nat.le_refl _, fun g hg => by simp at hg⟩
  | x :: l, s => by
    obtain ⟨h1, h2⟩ := best_ge gs l (bstep gs s x)
    have h3 : s.1 ≤ (bstep gs s x).1 ∧ votesN x.1 gs ≤ (bstep gs s x).1 := by
      unfold bstep
      split
      · rename_i h; rcases h with h | ⟨h, _⟩ <;> simp <;> omega
      · rename_i h; simp only [not_or, not_and] at h; simp; omega
    rw [List.foldl_cons]
    refine ⟨by omega, fun g hg => ?_⟩
    rcases List.mem_cons.1 hg with e | e
    · subst e; omega
    · exact h2 g e
theorem best_src (gs : List (Int × Int)) : ∀ (l : List (Int × Int)) (s : Nat × Int), l.foldl (bstep gs) s = s ∨ ∃ g ∈ l, l.foldl (bstep gs) s = (votesN g.1 gs, g.1)
  | [], s => .inl rfl
  | x :: l, s => by
    rw [List.foldl_cons]
    rcases best_src gs l (bstep gs s x) with h | ⟨g, hg, h⟩
    · rw [h]
      unfold bstep
      split
      · exact .inr ⟨x, List.mem_cons_self .., rfl⟩
      · exact .inl rfl
    · exact .inr ⟨g, List.mem_cons_of_mem _ hg, h⟩
theorem meetL_in (x : Int) : ∀ (gs : List (Int × Int)) (a : Int × Int), a.1 ≤ x → x ≤ a.2 → (∀ g ∈ gs, g.1 ≤ x ∧ x ≤ g.2) → (meetL a gs).1 ≤ x ∧ x ≤ (meetL a gs).2
  | [], a, h1, h2, _ => ⟨h1, h2⟩
  | g :: gs, a, h1, h2, h => by
    have hg := h g (List.mem_cons_self ..)
    have := meetL_in x gs (max a.1 g.1, min a.2 g.2) (by simp; omega) (by simp; omega) fun y hy => h y (List.mem_cons_of_mem _ hy)
    exact this
theorem meetL_src : ∀ (gs : List (Int × Int)) (a : Int × Int), (meetL a gs).1 = a.1 ∨ ∃ g ∈ gs, (meetL a gs).1 = g.1
  | [], a => .inl rfl
  | g :: gs, a => by
    have e : meetL a (g :: gs) = meetL (max a.1 g.1, min a.2 g.2) gs := rfl
    rw [e]
    rcases meetL_src gs (max a.1 g.1, min a.2 g.2) with h | ⟨y, hy, h⟩
    · rw [h]
      have : max a.1 g.1 = a.1 ∨ max a.1 g.1 = g.1 := by omega
      rcases this with q | q
      · exact .inl q
      · exact .inr ⟨g, List.mem_cons_self .., q⟩
    · exact .inr ⟨y, List.mem_cons_of_mem _ hy, h⟩
theorem votes_all {x : Int} {gs : List (Int × Int)} : votesN x gs = gs.length ↔ ∀ g ∈ gs, g.1 ≤ x ∧ x ≤ g.2 := by
  unfold votesN
  rw [List.countP_eq_length]
  constructor
  · intro h g hg; exact of_decide_eq_true (h g hg)
  · intro h g hg; exact decide_eq_true (h g hg)
theorem agree_same (gs : List (Int × Int)) (hin : ∀ g ∈ gs, -9223372036854775808 ≤ g.1 ∧ g.1 ≤ 9223372036854775807) : agreeRef gs = agreeB gs := by
  unfold agreeRef agreeB
  rcases Nat.eq_zero_or_pos gs.length with h0 | h0
  · rw [decide_eq_false (by omega)]; rfl
  rw [decide_eq_true h0, Bool.true_and, Bool.true_and]
  obtain ⟨b1, b2⟩ := best_ge gs gs (0, 0)
  have b3 := best_src gs gs (0, 0)
  have hb : ∀ n : Nat, 0 < n → ((bestR gs).2 = n ↔ (bestS gs).1 = n) := fun n hn => by
    unfold bestR
    split
    · rename_i h; rw [h]
    · exact Iff.rfl
  refine decide_eq_decide.2 ((hb _ h0).trans ⟨fun h => ?_, fun h => ?_⟩)
  · rcases b3 with e | ⟨g, hg, e⟩
    · have : bestS gs = (0, 0) := e
      rw [this] at h
      exact absurd h.symm (by simp; omega)
    · have e : bestS gs = _ := e
      rw [e] at h
      have hv := votes_all.1 h
      have hi := meetL_in g.1 gs allG (hin g hg).1 (hin g hg).2 hv
      unfold meetR foldR
      rw [if_neg, if_pos (show okG (meetL allG gs) = true from decide_eq_true (Int.le_trans hi.1 hi.2))]
      rw [show gs.all okG = true from List.all_eq_true.2 fun y hy => decide_eq_true (Int.le_trans (hv y hy).1 (hv y hy).2)]
      simp
  · obtain ⟨h1, h2, h3⟩ := meetR_ok h
    have h2 : (meetL allG gs).1 ≤ (meetL allG gs).2 := of_decide_eq_true h2
    have hall : ∀ g ∈ gs, g.1 ≤ (meetL allG gs).1 ∧ (meetL allG gs).1 ≤ g.2 := fun g hg => by
      have := meetL_le allG gs hg
      omega
    obtain ⟨g, hg, e⟩ : ∃ g ∈ gs, (meetL allG gs).1 = g.1 := by
      rcases meetL_src gs allG with e | e
      · obtain ⟨g, hg⟩ := List.exists_mem_of_length_pos h0
        refine ⟨g, hg, ?_⟩
        have := hall g hg
        have := hin g hg
        have : allG.1 = -9223372036854775808 := rfl
        omega
      · exact e
    have hv : votesN g.1 gs = gs.length := votes_all.2 (by rw [← e]; exact hall)
    have h4 := b2 g hg
    have h5 : (bestS gs).1 ≤ gs.length := by
      rcases b3 with e | ⟨y, hy, e⟩
      · have : bestS gs = (0, 0) := e
        rw [this]; exact Nat.zero_le _
      · have : bestS gs = _ := e
        rw [this]; exact votes_le _ _
    have h4 : votesN g.1 gs ≤ (bestS gs).1 := h4
    omega
theorem gapOf_in (x : Smp) (stamp rho : Int) : (0 ≤ (gapOf x stamp rho).1 ∧ (gapOf x stamp rho).1 ≤ 9223372036854775807) ∧ (okG (gapOf x stamp rho) = true ↔ (atR x stamp rho).2 = 0) := by
  unfold gapOf
  by_cases h : (atR x stamp rho).2 = 0
  · rw [if_pos h]
    obtain ⟨_, _, _, h4, h5⟩ := atR_out h
    rw [h5]
    refine ⟨?_, fun _ => h, fun _ => decide_eq_true h4⟩
    have : atLo x stamp rho ≤ atHi x stamp rho := h4
    have e1 : 0 ≤ atLo x stamp rho := by unfold atLo; omega
    have e2 : atHi x stamp rho ≤ 4611686018427387903 := by unfold atHi; omega
    exact ⟨e1, by show atLo x stamp rho ≤ _; omega⟩
  · rw [if_neg h]
    exact ⟨⟨by decide, by decide⟩, fun q => absurd q (by decide), fun q => absurd q h⟩
theorem add_same (s : CSt) (x : Smp) (h : s.streak < 9223372036854775807) : addC s x = raddC s x := by
  unfold addC raddC
  split
  · rfl
  have e : agreeB ((keepC (s.list ++ [x])).map fun o => gapOf o x.sent s.rho) = agreeRef ((keepC (s.list ++ [x])).map fun o => gapOf o x.sent s.rho) := (agree_same _ fun g hg => by
    obtain ⟨y, _, rfl⟩ := List.mem_map.1 hg
    have := (gapOf_in y x.sent s.rho).1
    omega).symm
  simp only [e, if_pos h]
  have e2 := (gapOf_in x x.sent s.rho).2
  by_cases q : (atR x x.sent s.rho).2 = 0
  · rw [if_pos q, if_pos (e2.2 q)]
  · rw [if_neg q, if_neg (fun r => q (e2.1 r))]
theorem at_same (s : CSt) (stamp : Int) (hok : ∀ y ∈ s.list, okS y = true) (hr : okRate s.rho = true) : atC s stamp = ratC s stamp := by
  unfold atC ratC
  split
  · rfl
  split
  · rfl
  rename_i h0 h1
  have h1 : isT stamp = true := by simpa using h1
  split
  · rename_i x hx
    have hxm := List.mem_of_find?_eq_some hx
    have hx0 : (atR x stamp s.rho).2 ≠ 0 := by have h := List.find?_some hx; simpa using h
    have hc : (atR x stamp s.rho).2 = 13 := by
      rcases atR_code (hok x hxm) hx0 with h | h
      · exact h
      · exfalso
        unfold atR at h
        rw [if_neg (by simp [hok x hxm]), if_neg (by simp [h1, hr])] at h
        split at h <;> simp at h
    rw [if_neg]
    · rw [hc]
    · intro q
      obtain ⟨q1, _⟩ := meetR_ok q
      have := List.all_eq_true.1 q1 _ (List.mem_map_of_mem hxm)
      exact hx0 ((gapOf_in x stamp s.rho).2.1 this)
  · rename_i hf
    have hall : ∀ y ∈ s.list, (atR y stamp s.rho).2 = 0 := fun y hy => by
      have := List.find?_eq_none.1 hf y hy
      simpa using this
    have e : (s.list.map fun x => gapOf x stamp s.rho) = s.list.map fun x => (atR x stamp s.rho).1 := List.map_congr_left fun y hy => by unfold gapOf; rw [if_pos (hall y hy)]
    rw [e]
    split
    · rfl
    · rename_i hz
      unfold meetR foldR at hz ⊢
      have hg : (s.list.map fun x => (atR x stamp s.rho).1).all okG = true := by
        rw [← e]
        refine List.all_eq_true.2 fun g hg => ?_
        obtain ⟨y, hy, rfl⟩ := List.mem_map.1 hg
        exact (gapOf_in y stamp s.rho).2.2 (hall y hy)
      rw [if_neg (by simp [hg])] at hz ⊢
      split
      · rename_i h2; rw [if_pos h2] at hz; exact absurd rfl hz
      · rfl
end Go.Proofs.Ytgidaifoiljgoaa
/- ClockWidth: its walk. -/
namespace Go.Proofs.Ytgidaifoiljgoaa
set_option linter.unusedSimpArgs false
set_option linter.unusedVariables false
open Go.RowKit
set_option maxRecDepth 100000
theorem atC_err {s : CSt} {stamp : Int} (h : (atC s stamp).2 ≠ 0) : (atC s stamp).1 = (0, 0) := by
  unfold atC at h ⊢
  split
  · rfl
  · split
    · rfl
    · split
      · rfl
      · rename_i h1 h2 _ h3
        rw [if_neg h1, if_neg h2, h3] at h
        simp only at h
        unfold meetR foldR at h ⊢
        split
        · rfl
        · rename_i g1
          rw [if_neg g1] at h
          split
          · rename_i g2; rw [if_pos g2] at h; exact absurd rfl h
          · rfl
theorem slack_le (far r : Int) (hr : okRate r = true) (h0 : 0 ≤ far) (h1 : far ≤ 4611686018427387904) : 0 ≤ slackZ far r ∧ slackZ far r ≤ 600000000000000000 := by
  have hr := of_decide_eq_true hr
  unfold slackZ
  refine ⟨by omega, ?_⟩
  have hb := (ratN_bounds far.toNat r.toNat (1000000 - r).toNat true).2
  have hd : far.toNat * r.toNat / (1000000 - r).toNat ≤ 512409557603043211 := by
    refine Nat.le_of_lt_succ ((Nat.div_lt_iff_lt_mul (by omega)).2 ?_)
    have h2 : far.toNat * r.toNat ≤ 4611686018427387904 * 100000 := Nat.mul_le_mul (by omega) (by omega)
    have h3 : (512409557603043211 + 1) * 900000 ≤ (512409557603043211 + 1) * (1000000 - r).toNat := Nat.mul_le_mul_left _ (by omega)
    omega
  omega
theorem width_sat (rho stamp : Int) (l : List Smp) (hst : in64 stamp) : Sat Try.prog 7 [iA rho, .d (.sl 4 (l.map sR)), iA stamp] [] (bA true) [] := by
  by_cases h60 : 60 < l.length
  · refine sat_of_vc (T := tiOf Try.prog) (E := E0) Try.func7 rfl rfl hE0 hm0 rfl ?_
    conv => whnf
    repeat (any_goals (first
      | exact True.intro
      | (refine Or.inl ?_; conv => whnf)
      | (refine And.intro (fun _ => ?_) tf; conv => whnf)
      | (refine And.intro ft (fun _ => ?_); conv => whnf)
      | (refine And.intro (by kernel_rfl) ?_; conv => whnf)
      | (refine And.intro (by decide) ?_; conv => whnf)
      | (refine And.intro (fun _ => ?_) (fun h => absurd h (by decide)); conv => whnf)
      | (refine And.intro (fun h => absurd h (by decide)) (fun _ => ?_); conv => whnf)
      | (refine And.intro (fun _ => ?_) (fun _ => ?_) <;> conv => whnf)
      | (refine ⟨_, _, alive_sat.pu rfl rfl, ?_⟩; conv => whnf)))
    all_goals try (exfalso; simp only [decide_eq_true_eq, decide_eq_false_iff_not, Bool.not_eq_true', Bool.not_eq_false', Bool.not_eq_true, Bool.not_eq_false, beq_iff_eq, bne_iff_ne, beq_eq_false_iff_ne, bne_eq_false_iff_eq, ne_eq, Decidable.not_not] at *; first | omega | contradiction | (simp_all; done) | (simp_all; omega))
    all_goals refine ⟨[], ?_⟩
    repeat (any_goals (first | exact True.intro | exact rfl | with_reducible_and_instances rfl | exact (by kernel_rfl) | refine And.intro ?_ ?_))
    all_goals conv => whnf
  by_cases hok : okRate rho = true
  · have n1 := new_ok rho 2 hok (by omega) (by omega)
    refine sat_of_vc (T := tiOf Try.prog) (E := E0) Try.func7 rfl rfl hE0 hm0 rfl ?_
    conv => whnf
    repeat (any_goals (first
      | exact True.intro
      | (refine And.intro (fun _ => ?_) tf; conv => whnf)
      | (refine And.intro ft (fun _ => ?_); conv => whnf)
      | (refine And.intro (by kernel_rfl) ?_; conv => whnf)
      | (refine And.intro (by decide) ?_; conv => whnf)
      | (refine And.intro (fun _ => ?_) (fun h => absurd h (by decide)); conv => whnf)
      | (refine And.intro (fun h => absurd h (by decide)) (fun _ => ?_); conv => whnf)
      | (refine And.intro (fun _ => ?_) (fun _ => ?_) <;> conv => whnf)))
    all_goals try (refine Or.inl ?_; conv => whnf)
    repeat (any_goals (first
      | exact True.intro
      | (refine And.intro (fun _ => ?_) tf; conv => whnf)
      | (refine And.intro ft (fun _ => ?_); conv => whnf)
      | (refine And.intro (by kernel_rfl) ?_; conv => whnf)
      | (refine And.intro (by decide) ?_; conv => whnf)
      | (refine And.intro (fun _ => ?_) (fun h => absurd h (by decide)); conv => whnf)
      | (refine And.intro (fun h => absurd h (by decide)) (fun _ => ?_); conv => whnf)
      | (refine And.intro (fun _ => ?_) (fun _ => ?_) <;> conv => whnf)
      | (refine ⟨_, _, alive_sat.pu rfl rfl, ?_⟩; conv => whnf)))
    all_goals try (refine Or.inl ?_; conv => whnf)
    repeat (any_goals (first
      | exact True.intro
      | (refine And.intro (fun _ => ?_) tf; conv => whnf)
      | (refine And.intro ft (fun _ => ?_); conv => whnf)
      | (refine And.intro (by kernel_rfl) ?_; conv => whnf)
      | (refine And.intro (by decide) ?_; conv => whnf)
      | (refine And.intro (fun _ => ?_) (fun h => absurd h (by decide)); conv => whnf)
      | (refine And.intro (fun h => absurd h (by decide)) (fun _ => ?_); conv => whnf)
      | (refine And.intro (fun _ => ?_) (fun _ => ?_) <;> conv => whnf)))
    all_goals try (exfalso; simp only [decide_eq_true_eq, decide_eq_false_iff_not, Bool.not_eq_true', Bool.not_eq_false', Bool.not_eq_true, Bool.not_eq_false, beq_iff_eq, bne_iff_ne, beq_eq_false_iff_ne, bne_eq_false_iff_eq, ne_eq, Decidable.not_not] at *; first | omega | contradiction | (simp_all; done) | (simp_all; omega))
    all_goals try (refine Or.inl ?_; conv => whnf)
    repeat (any_goals (first
      | exact True.intro
      | (refine And.intro (fun _ => ?_) tf; conv => whnf)
      | (refine And.intro ft (fun _ => ?_); conv => whnf)
      | (refine And.intro (by kernel_rfl) ?_; conv => whnf)
      | (refine And.intro (by decide) ?_; conv => whnf)
      | (refine And.intro (fun _ => ?_) (fun h => absurd h (by decide)); conv => whnf)
      | (refine And.intro (fun h => absurd h (by decide)) (fun _ => ?_); conv => whnf)
      | (refine And.intro (fun _ => ?_) (fun _ => ?_) <;> conv => whnf)
      | (refine ⟨_, _, n1.nw rfl, ?_⟩; conv => whnf)))
    all_goals try (refine Or.inl ?_; conv => whnf)
    repeat (any_goals (first
      | exact True.intro
      | (refine And.intro (fun _ => ?_) tf; conv => whnf)
      | (refine And.intro ft (fun _ => ?_); conv => whnf)
      | (refine And.intro (by kernel_rfl) ?_; conv => whnf)
      | (refine And.intro (by decide) ?_; conv => whnf)
      | (refine And.intro (fun _ => ?_) (fun h => absurd h (by decide)); conv => whnf)
      | (refine And.intro (fun h => absurd h (by decide)) (fun _ => ?_); conv => whnf)
      | (refine And.intro (fun _ => ?_) (fun _ => ?_) <;> conv => whnf)
      | (refine ⟨_, _, eqP (by kernel_rfl), ?_⟩; conv => whnf)))
    all_goals try (exfalso; simp only [decide_eq_true_eq, decide_eq_false_iff_not, Bool.not_eq_true', Bool.not_eq_false', Bool.not_eq_true, Bool.not_eq_false, beq_iff_eq, bne_iff_ne, beq_eq_false_iff_ne, bne_eq_false_iff_eq, ne_eq, Decidable.not_not] at *; first | omega | contradiction | (simp_all; done) | (simp_all; omega))
    all_goals try (refine Or.inl ?_; conv => whnf)
    repeat (any_goals (first
      | exact True.intro
      | (refine And.intro (fun _ => ?_) tf; conv => whnf)
      | (refine And.intro ft (fun _ => ?_); conv => whnf)
      | (refine And.intro (by kernel_rfl) ?_; conv => whnf)
      | (refine And.intro (by decide) ?_; conv => whnf)
      | (refine And.intro (fun _ => ?_) (fun h => absurd h (by decide)); conv => whnf)
      | (refine And.intro (fun h => absurd h (by decide)) (fun _ => ?_); conv => whnf)
      | (refine And.intro (fun _ => ?_) (fun _ => ?_) <;> conv => whnf)))
    all_goals try (refine Or.inl ?_; conv => whnf)
    repeat (any_goals (first
      | exact True.intro
      | (refine And.intro (fun _ => ?_) tf; conv => whnf)
      | (refine And.intro ft (fun _ => ?_); conv => whnf)
      | (refine And.intro (by kernel_rfl) ?_; conv => whnf)
      | (refine And.intro (by decide) ?_; conv => whnf)
      | (refine And.intro (fun _ => ?_) (fun h => absurd h (by decide)); conv => whnf)
      | (refine And.intro (fun h => absurd h (by decide)) (fun _ => ?_); conv => whnf)
      | (refine And.intro (fun _ => ?_) (fun _ => ?_) <;> conv => whnf)))
    refine ⟨Nat × CSt, fun y => y.1 ≤ l.length ∧ CInv y.2 rho 2 y.1 ∧ ∀ x ∈ y.2.list, okS x = true, fun y => ([(9, iA y.1), (7, .ptr 0 0), (0, iA rho), (1, .d (.sl 4 (l.map sR))), (2, iA stamp)], cH y.2), fun y => l.length - y.1, ⟨(0, ⟨rho, 2, false, 0, []⟩), ⟨Nat.zero_le _, ⟨rfl, rfl, Int.le_refl _, Int.le_refl _, Nat.zero_le _, show (0 : Int) ≤ 0 + 1 by omega⟩, fun x hx => by simp at hx⟩, ?_⟩, ?_⟩
    · all_goals refine ⟨[], ?_⟩
      repeat (any_goals (first | exact True.intro | exact rfl | with_reducible_and_instances rfl | exact (by kernel_rfl) | refine And.intro ?_ ?_))
      all_goals conv => whnf
    rintro ⟨k, s⟩ ⟨hk, I, hS⟩
    have hk : k ≤ l.length := hk
    have I : CInv s rho 2 k := I
    have hS : ∀ x ∈ s.list, okS x = true := hS
    conv => whnf
    by_cases hlt : k < l.length
    · have hx : l[k]? = some l[k] := List.getElem?_eq_getElem hlt
      generalize l[k] = x at hx
      have d := add_sat s x I.n8 (by have := I.s0; omega)
      repeat (any_goals (first
        | exact True.intro
        | (refine Or.inl ?_; conv => whnf)
        | (refine And.intro (fun _ => ?_) tf; conv => whnf)
        | (refine And.intro ft (fun _ => ?_); conv => whnf)
        | (refine And.intro (by kernel_rfl) ?_; conv => whnf)
        | (refine And.intro (by decide) ?_; conv => whnf)
        | (refine And.intro (fun _ => ?_) (fun h => absurd h (by decide)); conv => whnf)
        | (refine And.intro (fun h => absurd h (by decide)) (fun _ => ?_); conv => whnf)
        | (refine And.intro (fun _ => ?_) (fun h => absurd h (by simpa using hlt)); conv => whnf)
        | (refine ⟨k, _, rfl, map_get hx, ?_⟩; conv => whnf)
        | (refine And.intro (fun _ => ?_) (fun _ => ?_) <;> conv => whnf)
        | (refine ⟨_, _, d.at2 0 1 rfl rfl rfl rfl rfl, ?_⟩; conv => whnf)))
      refine ⟨(k + 1, (addC s x).1), ⟨hlt, addC_next I x (by omega), addC_okS s x hS⟩, show l.length - (k + 1) < l.length - k by omega, ?_⟩
      all_goals refine ⟨[(1, 2)], ?_⟩
      repeat (any_goals (first | exact True.intro | exact rfl | with_reducible_and_instances rfl | exact (by kernel_rfl) | refine And.intro ?_ ?_))
      all_goals conv => whnf
      exact wk1 (by omega)
    · have h8 := I.n8
      repeat (any_goals (first
        | exact True.intro
        | (refine And.intro (fun _ => ?_) tf; conv => whnf)
        | (refine And.intro ft (fun _ => ?_); conv => whnf)
        | (refine And.intro (by kernel_rfl) ?_; conv => whnf)
        | (refine And.intro (by decide) ?_; conv => whnf)
        | (refine And.intro (fun _ => ?_) (fun h => absurd h (by decide)); conv => whnf)
        | (refine And.intro (fun h => absurd h (by decide)) (fun _ => ?_); conv => whnf)
        | (refine And.intro (fun h => absurd h (by simpa using hlt)) (fun _ => ?_); conv => whnf)
        | (refine And.intro (fun _ => ?_) (fun _ => ?_) <;> conv => whnf)))
      all_goals try (exfalso; simp only [decide_eq_true_eq, decide_eq_false_iff_not, Bool.not_eq_true', Bool.not_eq_false', Bool.not_eq_true, Bool.not_eq_false, beq_iff_eq, bne_iff_ne, beq_eq_false_iff_ne, bne_eq_false_iff_eq, ne_eq, Decidable.not_not] at *; first | omega | contradiction | (simp_all; done) | (simp_all; omega))
      all_goals try (refine Or.inl ?_; conv => whnf)
      have hr : s.rho = rho := I.r
      subst hr
      repeat (any_goals (first
        | exact True.intro
        | (refine And.intro (fun _ => ?_) tf; conv => whnf)
        | (refine And.intro ft (fun _ => ?_); conv => whnf)
        | (refine And.intro (by kernel_rfl) ?_; conv => whnf)
        | (refine And.intro (by decide) ?_; conv => whnf)
        | (refine And.intro (fun _ => ?_) (fun h => absurd h (by decide)); conv => whnf)
        | (refine And.intro (fun h => absurd h (by decide)) (fun _ => ?_); conv => whnf)
        | (refine And.intro (fun _ => ?_) (fun _ => ?_) <;> conv => whnf)
        | (refine ⟨_, _, (clkAt_sat s stamp h8).at2 0 1 rfl rfl rfl rfl rfl, ?_⟩; conv => whnf)))
      all_goals try (refine Or.inl ?_; conv => whnf)
      all_goals try (exfalso; simp only [decide_eq_true_eq, decide_eq_false_iff_not, Bool.not_eq_true', Bool.not_eq_false', Bool.not_eq_true, Bool.not_eq_false, beq_iff_eq, bne_iff_ne, beq_eq_false_iff_ne, bne_eq_false_iff_eq, ne_eq, Decidable.not_not] at *; first | omega | contradiction | (simp_all; done) | (simp_all; omega))
      repeat (any_goals (first
        | exact True.intro
        | (refine And.intro (fun _ => ?_) tf; conv => whnf)
        | (refine And.intro ft (fun _ => ?_); conv => whnf)
        | (refine And.intro (by kernel_rfl) ?_; conv => whnf)
        | (refine And.intro (by decide) ?_; conv => whnf)
        | (refine And.intro (fun _ => ?_) (fun h => absurd h (by decide)); conv => whnf)
        | (refine And.intro (fun h => absurd h (by decide)) (fun _ => ?_); conv => whnf)
        | (refine And.intro (fun _ => ?_) (fun _ => ?_) <;> conv => whnf)
        | (refine ⟨_, _, (samples_sat s h8).at2 0 1 rfl rfl rfl rfl rfl, ?_⟩; conv => whnf)
        | (refine ⟨_, _, eqS (by kernel_rfl), ?_⟩; conv => whnf)))
      all_goals try (exfalso; simp only [decide_eq_true_eq, decide_eq_false_iff_not, Bool.not_eq_true', Bool.not_eq_false', Bool.not_eq_true, Bool.not_eq_false, beq_iff_eq, bne_iff_ne, beq_eq_false_iff_ne, bne_eq_false_iff_eq, ne_eq, Decidable.not_not] at *; first | omega | contradiction | (simp_all; done) | (simp_all; omega))
      · have hg := atC_err (s := s) (stamp := stamp) (by (try simp only [decide_eq_true_eq, decide_eq_false_iff_not, Bool.not_eq_true', Bool.not_eq_false', Bool.not_eq_true, Bool.not_eq_false, beq_iff_eq, bne_iff_ne, beq_eq_false_iff_ne, bne_eq_false_iff_eq, ne_eq, Decidable.not_not, Int.natCast_eq_zero] at *); first | omega | assumption | (simp_all; done) | (simp_all; omega))
        all_goals refine ⟨[], ?_⟩
        repeat (any_goals (first | exact True.intro | exact rfl | with_reducible_and_instances rfl | exact (by kernel_rfl) | refine And.intro ?_ ?_))
        all_goals conv => whnf
        rw [hg]; rfl
      have hf : (atC s stamp).2 = 0 := (by (try simp only [decide_eq_true_eq, decide_eq_false_iff_not, Bool.not_eq_true', Bool.not_eq_false', Bool.not_eq_true, Bool.not_eq_false, beq_iff_eq, bne_iff_ne, beq_eq_false_iff_ne, bne_eq_false_iff_eq, ne_eq, Decidable.not_not, Int.natCast_eq_zero] at *); first | omega | assumption | (simp_all; done) | (simp_all; omega))
      have hT := (atC_zero hf).2.1
      have hT' := of_decide_eq_true hT
      all_goals try (refine Or.inl ?_; conv => whnf)
      repeat (any_goals (first
        | exact True.intro
        | (refine And.intro (fun _ => ?_) tf; conv => whnf)
        | (refine And.intro ft (fun _ => ?_); conv => whnf)
        | (refine And.intro (by kernel_rfl) ?_; conv => whnf)
        | (refine And.intro (by decide) ?_; conv => whnf)
        | (refine And.intro (fun _ => ?_) (fun h => absurd h (by decide)); conv => whnf)
        | (refine And.intro (fun h => absurd h (by decide)) (fun _ => ?_); conv => whnf)
        | (refine And.intro (fun _ => ?_) (fun _ => ?_) <;> conv => whnf)))
      refine ⟨Nat, fun j => j ≤ s.list.length, fun j => ([(13, iA j), (12, .own 3), (10, .ptr 2 0), (0, iA s.rho), (2, iA stamp)], [cR s, .sl 4 (s.list.map sR), .cells [iA (atC s stamp).1.1, iA (atC s stamp).1.2], .sl 4 (s.list.map sR)]), fun j => s.list.length - j, ⟨0, Nat.zero_le _, ?_⟩, ?_⟩
      · all_goals refine ⟨[], ?_⟩
        repeat (any_goals (first | exact True.intro | exact rfl | with_reducible_and_instances rfl | exact (by kernel_rfl) | refine And.intro ?_ ?_))
        all_goals conv => whnf
      rintro j hj
      conv => whnf
      by_cases hjl : j < s.list.length
      · have hx : s.list[j]? = some s.list[j] := List.getElem?_eq_getElem hjl
        have hm := List.getElem_mem hjl
        generalize s.list[j] = x at hx hm
        have hxs := hS x hm
        obtain ⟨w1, w2, w3⟩ := width_in hf hm
        have hro := (atR_out w1).2.2.1
        have e4 := (atR_out w1).2.2.2.2
        have hxs' := hxs
        simp [okS, isT] at hxs'
        have hfar := far_out x stamp
        have hfl : farZ x stamp ≤ 4611686018427387903 := hfar.2.2.2.2 _ (by omega) (by omega) (by omega) (by omega)
        have sl := slack_sat (farZ x stamp) s.rho (by unfold farA; exact decide_eq_true (by omega)) hro
        have hsl := slack_le (farZ x stamp) s.rho hro (by omega) (by omega)
        have u1 : IntKind.i64.wrap (stamp - x.got) = stamp - x.got := wi (by omega) (by omega)
        have u2 : IntKind.i64.wrap (x.got - stamp) = x.got - stamp := wi (by omega) (by omega)
        have u3 : IntKind.i64.wrap (stamp - x.sent) = stamp - x.sent := wi (by omega) (by omega)
        have u4 : IntKind.i64.wrap (x.sent - stamp) = x.sent - stamp := wi (by omega) (by omega)
        have hfe : farZ x stamp = mx2 (mx2 (mx2 (IntKind.i64.wrap (stamp - x.got)) (IntKind.i64.wrap (x.got - stamp))) (IntKind.i64.wrap (stamp - x.sent))) (IntKind.i64.wrap (x.sent - stamp)) := by rw [u1, u2, u3, u4]; rfl
        rw [hfe] at sl w3 hsl
        generalize slackZ _ s.rho = S at sl w3 hsl
        have ht : tripZ x = (x.came - x.asked) - (x.sent - x.got) := by unfold tripZ; rw [if_pos hxs]
        have hb : 0 ≤ (atC s stamp).1.1 ∧ (atC s stamp).1.1 ≤ (atC s stamp).1.2 ∧ (atC s stamp).1.2 ≤ 4611686018427387903 := by
          have w2 := w2
          unfold withB okG at w2
          rw [e4] at w2
          simp only [Bool.and_eq_true, decide_eq_true_eq] at w2
          unfold atLo atHi at w2
          omega
        have v1 : IntKind.i64.wrap (2 * S) = 2 * S := wi (by omega) (by omega)
        have v2 : IntKind.i64.wrap (tripZ x + 2 * S) = tripZ x + 2 * S := wi (by omega) (by omega)
        have v3 : IntKind.i64.wrap (tripZ x + 2 * S + 4) = tripZ x + 2 * S + 4 := wi (by omega) (by omega)
        have v4 : IntKind.i64.wrap ((atC s stamp).1.2 - (atC s stamp).1.1) = (atC s stamp).1.2 - (atC s stamp).1.1 := wi (by omega) (by omega)
        repeat (any_goals (first
          | exact True.intro
          | (refine Or.inl ?_; conv => whnf)
          | (refine And.intro (fun _ => ?_) tf; conv => whnf)
          | (refine And.intro ft (fun _ => ?_); conv => whnf)
          | (refine And.intro (by kernel_rfl) ?_; conv => whnf)
          | (refine And.intro (by decide) ?_; conv => whnf)
          | (refine And.intro (fun _ => ?_) (fun h => absurd h (by decide)); conv => whnf)
          | (refine And.intro (fun h => absurd h (by decide)) (fun _ => ?_); conv => whnf)
          | (refine And.intro (fun _ => ?_) (fun h => absurd h (by simpa using hjl)); conv => whnf)
          | (refine ⟨_, rfl, by simpa using hjl, ?_⟩; conv => whnf)
          | (refine ⟨_, map_get hx, ?_⟩; conv => whnf)
          | (refine And.intro (fun _ => ?_) (fun _ => ?_) <;> conv => whnf)
          | (refine ⟨_, _, max4, ?_⟩; conv => whnf)
          | (refine ⟨_, _, sl.pu rfl rfl, ?_⟩; conv => whnf)
          | (refine ⟨_, _, (at_sat x stamp s.rho hst.1 hst.2).pu rfl rfl, ?_⟩; conv => whnf)
          | (refine ⟨_, _, (within_sat _ _).pu rfl rfl, ?_⟩; conv => whnf)
          | (refine ⟨_, _, (trip_sat x).pu rfl rfl, ?_⟩; conv => whnf)))
        all_goals try (exfalso; simp only [decide_eq_true_eq, decide_eq_false_iff_not, Bool.not_eq_true', Bool.not_eq_false', Bool.not_eq_true, Bool.not_eq_false, beq_iff_eq, bne_iff_ne, beq_eq_false_iff_ne, bne_eq_false_iff_eq, ne_eq, Decidable.not_not] at *; first | omega | contradiction | (simp_all; done) | (simp_all; omega))
        · refine ⟨j + 1, hjl, show s.list.length - (j + 1) < s.list.length - j by omega, ?_⟩
          all_goals refine ⟨[], ?_⟩
          repeat (any_goals (first | exact True.intro | exact rfl | with_reducible_and_instances rfl | exact (by kernel_rfl) | refine And.intro ?_ ?_))
          all_goals conv => whnf
          exact wk1 (by omega)
      · have hne : 0 < s.list.length := List.length_pos_iff.2 (atC_zero hf).1
        repeat (any_goals (first
          | exact True.intro
          | (refine Or.inl ?_; conv => whnf)
          | (refine And.intro (fun _ => ?_) tf; conv => whnf)
          | (refine And.intro ft (fun _ => ?_); conv => whnf)
          | (refine And.intro (by kernel_rfl) ?_; conv => whnf)
          | (refine And.intro (by decide) ?_; conv => whnf)
          | (refine And.intro (fun _ => ?_) (fun h => absurd h (by decide)); conv => whnf)
          | (refine And.intro (fun h => absurd h (by decide)) (fun _ => ?_); conv => whnf)
          | (refine And.intro (fun h => absurd h (by simpa using hjl)) (fun _ => ?_); conv => whnf)
          | (refine And.intro (fun _ => ?_) (fun _ => ?_) <;> conv => whnf)))
        all_goals try (exfalso; simp only [decide_eq_true_eq, decide_eq_false_iff_not, Bool.not_eq_true', Bool.not_eq_false', Bool.not_eq_true, Bool.not_eq_false, beq_iff_eq, bne_iff_ne, beq_eq_false_iff_ne, bne_eq_false_iff_eq, ne_eq, Decidable.not_not] at *; first | omega | contradiction | (simp_all; done) | (simp_all; omega))
        rw [decide_eq_true (by rw [List.length_map]; omega)]
        all_goals refine ⟨[], ?_⟩
        repeat (any_goals (first | exact True.intro | exact rfl | with_reducible_and_instances rfl | exact (by kernel_rfl) | refine And.intro ?_ ?_))
        all_goals conv => whnf
  · have n1 := new_err rho 2 (by simp at hok; exact .inl hok)
    refine sat_of_vc (T := tiOf Try.prog) (E := E0) Try.func7 rfl rfl hE0 hm0 rfl ?_
    conv => whnf
    repeat (any_goals (first
      | exact True.intro
      | (refine Or.inl ?_; conv => whnf)
      | (refine And.intro (fun _ => ?_) tf; conv => whnf)
      | (refine And.intro ft (fun _ => ?_); conv => whnf)
      | (refine And.intro (by kernel_rfl) ?_; conv => whnf)
      | (refine And.intro (by decide) ?_; conv => whnf)
      | (refine And.intro (fun _ => ?_) (fun h => absurd h (by decide)); conv => whnf)
      | (refine And.intro (fun h => absurd h (by decide)) (fun _ => ?_); conv => whnf)
      | (refine And.intro (fun _ => ?_) (fun _ => ?_) <;> conv => whnf)
      | (refine ⟨_, _, alive_sat.pu rfl rfl, ?_⟩; conv => whnf)
      | (refine ⟨_, _, n1.pu rfl rfl, ?_⟩; conv => whnf)
      | (refine ⟨_, _, eqN (by kernel_rfl), ?_⟩; conv => whnf)))
    all_goals try (exfalso; simp only [decide_eq_true_eq, decide_eq_false_iff_not, Bool.not_eq_true', Bool.not_eq_false', Bool.not_eq_true, Bool.not_eq_false, beq_iff_eq, bne_iff_ne, beq_eq_false_iff_ne, bne_eq_false_iff_eq, ne_eq, Decidable.not_not] at *; first | omega | contradiction | (simp_all; done) | (simp_all; omega))
    all_goals refine ⟨[], ?_⟩
    repeat (any_goals (first | exact True.intro | exact rfl | with_reducible_and_instances rfl | exact (by kernel_rfl) | refine And.intro ?_ ?_))
    all_goals conv => whnf
theorem width_law (H : Type) (enc : TypeId × Value → H) : LawWalk H enc Try.prog 7 Try.f7 :=
  lawWalk_of_sat (by kernel_rfl) fun args h => by
    obtain ⟨a, _, rfl, h1, h⟩ := h
    obtain ⟨x, _, rfl, h2, h⟩ := h
    obtain ⟨b, _, rfl, h4, h⟩ := h
    obtain rfl := h
    obtain ⟨a, rfl, _⟩ := ty_i64 h1 Try.underlying2
    obtain ⟨l, rfl, _⟩ := ty_smps h2
    obtain ⟨b, rfl, hb⟩ := ty_i64 h4 Try.underlying2
    exact width_sat a b l hb
end Go.Proofs.Ytgidaifoiljgoaa
