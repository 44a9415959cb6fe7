/- Parts Kx, Ro, Rzp, DrL, DrM, DrN, Laid of the proof, put together. -/
import Derived.Test.YtgidaifoiljgoaaM10
import Derived.Test.YtgidaifoiljgoaaChecked
import Derived.Test.YtgidaifoiljgoaaRows
/- ClockWidth: its walk. -/
namespace Go.Proofs.Ytgidaifoiljgoaa
set_option linter.unusedSimpArgs false
set_option linter.unusedVariables false
open Go.RowKit
set_option maxRecDepth 100000
theorem atC_err {s : CSt} {stamp : Int} (h : (atC s stamp).2 ≠ 0) : (atC s stamp).1 = (0, 0) := by
  unfold atC at h ⊢
  split
  · rfl
  · split
    · rfl
    · split
      · rfl
      · rename_i h1 h2 _ h3
        rw [if_neg h1, if_neg h2, h3] at h
        simp only at h
        unfold meetR foldR at h ⊢
        split
        · rfl
        · rename_i g1
          rw [if_neg g1] at h
          split
          · rename_i g2; rw [if_pos g2] at h; exact absurd rfl h
          · rfl
theorem slack_le (far r : Int) (hr : okRate r = true) (h0 : 0 ≤ far) (h1 : far ≤ 4611686018427387904) : 0 ≤ slackZ far r ∧ slackZ far r ≤ 600000000000000000 := by
  have hr := of_decide_eq_true hr
  unfold slackZ
  refine ⟨by omega, ?_⟩
  have hb := (ratN_bounds far.toNat r.toNat (1000000 - r).toNat true).2
  have hd : far.toNat * r.toNat / (1000000 - r).toNat ≤ 512409557603043211 := by
    refine Nat.le_of_lt_succ ((Nat.div_lt_iff_lt_mul (by omega)).2 ?_)
    have h2 : far.toNat * r.toNat ≤ 4611686018427387904 * 100000 := Nat.mul_le_mul (by omega) (by omega)
    have h3 : (512409557603043211 + 1) * 900000 ≤ (512409557603043211 + 1) * (1000000 - r).toNat := Nat.mul_le_mul_left _ (by omega)
    omega
  omega
theorem width_sat (rho stamp : Int) (l : List Smp) (hst : in64 stamp) : Sat Try.prog 7 [iA rho, .d (.sl 4 (l.map sR)), iA stamp] [] (bA true) [] := by
  by_cases h60 : 60 < l.length
  · refine sat_of_vc (T := tiOf Try.prog) (E := E0) Try.func7 rfl rfl hE0 hm0 rfl ?_
    conv => whnf
    repeat (any_goals (first
      | exact True.intro
      | (refine Or.inl ?_; conv => whnf)
      | (refine And.intro (fun _ => ?_) tf; conv => whnf)
      | (refine And.intro ft (fun _ => ?_); conv => whnf)
      | (refine And.intro (by kernel_rfl) ?_; conv => whnf)
      | (refine And.intro (by decide) ?_; conv => whnf)
      | (refine And.intro (fun _ => ?_) (fun h => absurd h (by decide)); conv => whnf)
      | (refine And.intro (fun h => absurd h (by decide)) (fun _ => ?_); conv => whnf)
      | (refine And.intro (fun _ => ?_) (fun _ => ?_) <;> conv => whnf)
      | (refine ⟨_, _, alive_sat.pu rfl rfl, ?_⟩; conv => whnf)))
    all_goals try (exfalso; simp only [decide_eq_true_eq, decide_eq_false_iff_not, Bool.not_eq_true', Bool.not_eq_false', Bool.not_eq_true, Bool.not_eq_false, beq_iff_eq, bne_iff_ne, beq_eq_false_iff_ne, bne_eq_false_iff_eq, ne_eq, Decidable.not_not] at *; first | omega | contradiction | (simp_all; done) | (simp_all; omega))
    all_goals refine ⟨[], ?_⟩
    repeat (any_goals (first | exact True.intro | exact rfl | with_reducible_and_instances rfl | exact (by kernel_rfl) | refine And.intro ?_ ?_))
    all_goals conv => whnf
  by_cases hok : okRate rho = true
  · have n1 := new_ok rho 2 hok (by omega) (by omega)
    refine sat_of_vc (T := tiOf Try.prog) (E := E0) Try.func7 rfl rfl hE0 hm0 rfl ?_
    conv => whnf
    repeat (any_goals (first
      | exact True.intro
      | (refine And.intro (fun _ => ?_) tf; conv => whnf)
      | (refine And.intro ft (fun _ => ?_); conv => whnf)
      | (refine And.intro (by kernel_rfl) ?_; conv => whnf)
      | (refine And.intro (by decide) ?_; conv => whnf)
      | (refine And.intro (fun _ => ?_) (fun h => absurd h (by decide)); conv => whnf)
      | (refine And.intro (fun h => absurd h (by decide)) (fun _ => ?_); conv => whnf)
      | (refine And.intro (fun _ => ?_) (fun _ => ?_) <;> conv => whnf)))
    all_goals try (refine Or.inl ?_; conv => whnf)
    repeat (any_goals (first
      | exact True.intro
      | (refine And.intro (fun _ => ?_) tf; conv => whnf)
      | (refine And.intro ft (fun _ => ?_); conv => whnf)
      | (refine And.intro (by kernel_rfl) ?_; conv => whnf)
      | (refine And.intro (by decide) ?_; conv => whnf)
      | (refine And.intro (fun _ => ?_) (fun h => absurd h (by decide)); conv => whnf)
      | (refine And.intro (fun h => absurd h (by decide)) (fun _ => ?_); conv => whnf)
      | (refine And.intro (fun _ => ?_) (fun _ => ?_) <;> conv => whnf)
      | (refine ⟨_, _, alive_sat.pu rfl rfl, ?_⟩; conv => whnf)))
    all_goals try (refine Or.inl ?_; conv => whnf)
    repeat (any_goals (first
      | exact True.intro
      | (refine And.intro (fun _ => ?_) tf; conv => whnf)
      | (refine And.intro ft (fun _ => ?_); conv => whnf)
      | (refine And.intro (by kernel_rfl) ?_; conv => whnf)
      | (refine And.intro (by decide) ?_; conv => whnf)
      | (refine And.intro (fun _ => ?_) (fun h => absurd h (by decide)); conv => whnf)
      | (refine And.intro (fun h => absurd h (by decide)) (fun _ => ?_); conv => whnf)
      | (refine And.intro (fun _ => ?_) (fun _ => ?_) <;> conv => whnf)))
    all_goals try (exfalso; simp only [decide_eq_true_eq, decide_eq_false_iff_not, Bool.not_eq_true', Bool.not_eq_false', Bool.not_eq_true, Bool.not_eq_false, beq_iff_eq, bne_iff_ne, beq_eq_false_iff_ne, bne_eq_false_iff_eq, ne_eq, Decidable.not_not] at *; first | omega | contradiction | (simp_all; done) | (simp_all; omega))
    all_goals try (refine Or.inl ?_; conv => whnf)
    repeat (any_goals (first
      | exact True.intro
      | (refine And.intro (fun _ => ?_) tf; conv => whnf)
      | (refine And.intro ft (fun _ => ?_); conv => whnf)
      | (refine And.intro (by kernel_rfl) ?_; conv => whnf)
      | (refine And.intro (by decide) ?_; conv => whnf)
      | (refine And.intro (fun _ => ?_) (fun h => absurd h (by decide)); conv => whnf)
      | (refine And.intro (fun h => absurd h (by decide)) (fun _ => ?_); conv => whnf)
      | (refine And.intro (fun _ => ?_) (fun _ => ?_) <;> conv => whnf)
      | (refine ⟨_, _, n1.nw rfl, ?_⟩; conv => whnf)))
    all_goals try (refine Or.inl ?_; conv => whnf)
    repeat (any_goals (first
      | exact True.intro
      | (refine And.intro (fun _ => ?_) tf; conv => whnf)
      | (refine And.intro ft (fun _ => ?_); conv => whnf)
      | (refine And.intro (by kernel_rfl) ?_; conv => whnf)
      | (refine And.intro (by decide) ?_; conv => whnf)
      | (refine And.intro (fun _ => ?_) (fun h => absurd h (by decide)); conv => whnf)
      | (refine And.intro (fun h => absurd h (by decide)) (fun _ => ?_); conv => whnf)
      | (refine And.intro (fun _ => ?_) (fun _ => ?_) <;> conv => whnf)
      | (refine ⟨_, _, eqP (by kernel_rfl), ?_⟩; conv => whnf)))
    all_goals try (exfalso; simp only [decide_eq_true_eq, decide_eq_false_iff_not, Bool.not_eq_true', Bool.not_eq_false', Bool.not_eq_true, Bool.not_eq_false, beq_iff_eq, bne_iff_ne, beq_eq_false_iff_ne, bne_eq_false_iff_eq, ne_eq, Decidable.not_not] at *; first | omega | contradiction | (simp_all; done) | (simp_all; omega))
    all_goals try (refine Or.inl ?_; conv => whnf)
    repeat (any_goals (first
      | exact True.intro
      | (refine And.intro (fun _ => ?_) tf; conv => whnf)
      | (refine And.intro ft (fun _ => ?_); conv => whnf)
      | (refine And.intro (by kernel_rfl) ?_; conv => whnf)
      | (refine And.intro (by decide) ?_; conv => whnf)
      | (refine And.intro (fun _ => ?_) (fun h => absurd h (by decide)); conv => whnf)
      | (refine And.intro (fun h => absurd h (by decide)) (fun _ => ?_); conv => whnf)
      | (refine And.intro (fun _ => ?_) (fun _ => ?_) <;> conv => whnf)))
    all_goals try (refine Or.inl ?_; conv => whnf)
    repeat (any_goals (first
      | exact True.intro
      | (refine And.intro (fun _ => ?_) tf; conv => whnf)
      | (refine And.intro ft (fun _ => ?_); conv => whnf)
      | (refine And.intro (by kernel_rfl) ?_; conv => whnf)
      | (refine And.intro (by decide) ?_; conv => whnf)
      | (refine And.intro (fun _ => ?_) (fun h => absurd h (by decide)); conv => whnf)
      | (refine And.intro (fun h => absurd h (by decide)) (fun _ => ?_); conv => whnf)
      | (refine And.intro (fun _ => ?_) (fun _ => ?_) <;> conv => whnf)))
    refine ⟨Nat × CSt, fun y => y.1 ≤ l.length ∧ CInv y.2 rho 2 y.1 ∧ ∀ x ∈ y.2.list, okS x = true, fun y => ([(9, iA y.1), (7, .ptr 0 0), (0, iA rho), (1, .d (.sl 4 (l.map sR))), (2, iA stamp)], cH y.2), fun y => l.length - y.1, ⟨(0, ⟨rho, 2, false, 0, []⟩), ⟨Nat.zero_le _, ⟨rfl, rfl, Int.le_refl _, Int.le_refl _, Nat.zero_le _, show (0 : Int) ≤ 0 + 1 by omega⟩, fun x hx => by simp at hx⟩, ?_⟩, ?_⟩
    · all_goals refine ⟨[], ?_⟩
      repeat (any_goals (first | exact True.intro | exact rfl | with_reducible_and_instances rfl | exact (by kernel_rfl) | refine And.intro ?_ ?_))
      all_goals conv => whnf
    rintro ⟨k, s⟩ ⟨hk, I, hS⟩
    have hk : k ≤ l.length := hk
    have I : CInv s rho 2 k := I
    have hS : ∀ x ∈ s.list, okS x = true := hS
    conv => whnf
    by_cases hlt : k < l.length
    · have hx : l[k]? = some l[k] := List.getElem?_eq_getElem hlt
      generalize l[k] = x at hx
      have d := add_sat s x I.n8 (by have := I.s0; omega)
      repeat (any_goals (first
        | exact True.intro
        | (refine Or.inl ?_; conv => whnf)
        | (refine And.intro (fun _ => ?_) tf; conv => whnf)
        | (refine And.intro ft (fun _ => ?_); conv => whnf)
        | (refine And.intro (by kernel_rfl) ?_; conv => whnf)
        | (refine And.intro (by decide) ?_; conv => whnf)
        | (refine And.intro (fun _ => ?_) (fun h => absurd h (by decide)); conv => whnf)
        | (refine And.intro (fun h => absurd h (by decide)) (fun _ => ?_); conv => whnf)
        | (refine And.intro (fun _ => ?_) (fun h => absurd h (by simpa using hlt)); conv => whnf)
        | (refine ⟨k, _, rfl, map_get hx, ?_⟩; conv => whnf)
        | (refine And.intro (fun _ => ?_) (fun _ => ?_) <;> conv => whnf)
        | (refine ⟨_, _, d.at2 0 1 rfl rfl rfl rfl rfl, ?_⟩; conv => whnf)))
      refine ⟨(k + 1, (addC s x).1), ⟨hlt, addC_next I x (by omega), addC_okS s x hS⟩, show l.length - (k + 1) < l.length - k by omega, ?_⟩
      all_goals refine ⟨[(1, 2)], ?_⟩
      repeat (any_goals (first | exact True.intro | exact rfl | with_reducible_and_instances rfl | exact (by kernel_rfl) | refine And.intro ?_ ?_))
      all_goals conv => whnf
      exact wk1 (by omega)
    · have h8 := I.n8
      repeat (any_goals (first
        | exact True.intro
        | (refine And.intro (fun _ => ?_) tf; conv => whnf)
        | (refine And.intro ft (fun _ => ?_); conv => whnf)
        | (refine And.intro (by kernel_rfl) ?_; conv => whnf)
        | (refine And.intro (by decide) ?_; conv => whnf)
        | (refine And.intro (fun _ => ?_) (fun h => absurd h (by decide)); conv => whnf)
        | (refine And.intro (fun h => absurd h (by decide)) (fun _ => ?_); conv => whnf)
        | (refine And.intro (fun h => absurd h (by simpa using hlt)) (fun _ => ?_); conv => whnf)
        | (refine And.intro (fun _ => ?_) (fun _ => ?_) <;> conv => whnf)))
      all_goals try (exfalso; simp only [decide_eq_true_eq, decide_eq_false_iff_not, Bool.not_eq_true', Bool.not_eq_false', Bool.not_eq_true, Bool.not_eq_false, beq_iff_eq, bne_iff_ne, beq_eq_false_iff_ne, bne_eq_false_iff_eq, ne_eq, Decidable.not_not] at *; first | omega | contradiction | (simp_all; done) | (simp_all; omega))
      all_goals try (refine Or.inl ?_; conv => whnf)
      have hr : s.rho = rho := I.r
      subst hr
      repeat (any_goals (first
        | exact True.intro
        | (refine And.intro (fun _ => ?_) tf; conv => whnf)
        | (refine And.intro ft (fun _ => ?_); conv => whnf)
        | (refine And.intro (by kernel_rfl) ?_; conv => whnf)
        | (refine And.intro (by decide) ?_; conv => whnf)
        | (refine And.intro (fun _ => ?_) (fun h => absurd h (by decide)); conv => whnf)
        | (refine And.intro (fun h => absurd h (by decide)) (fun _ => ?_); conv => whnf)
        | (refine And.intro (fun _ => ?_) (fun _ => ?_) <;> conv => whnf)
        | (refine ⟨_, _, (clkAt_sat s stamp h8).at2 0 1 rfl rfl rfl rfl rfl, ?_⟩; conv => whnf)))
      all_goals try (refine Or.inl ?_; conv => whnf)
      all_goals try (exfalso; simp only [decide_eq_true_eq, decide_eq_false_iff_not, Bool.not_eq_true', Bool.not_eq_false', Bool.not_eq_true, Bool.not_eq_false, beq_iff_eq, bne_iff_ne, beq_eq_false_iff_ne, bne_eq_false_iff_eq, ne_eq, Decidable.not_not] at *; first | omega | contradiction | (simp_all; done) | (simp_all; omega))
      repeat (any_goals (first
        | exact True.intro
        | (refine And.intro (fun _ => ?_) tf; conv => whnf)
        | (refine And.intro ft (fun _ => ?_); conv => whnf)
        | (refine And.intro (by kernel_rfl) ?_; conv => whnf)
        | (refine And.intro (by decide) ?_; conv => whnf)
        | (refine And.intro (fun _ => ?_) (fun h => absurd h (by decide)); conv => whnf)
        | (refine And.intro (fun h => absurd h (by decide)) (fun _ => ?_); conv => whnf)
        | (refine And.intro (fun _ => ?_) (fun _ => ?_) <;> conv => whnf)
        | (refine ⟨_, _, (samples_sat s h8).at2 0 1 rfl rfl rfl rfl rfl, ?_⟩; conv => whnf)
        | (refine ⟨_, _, eqS (by kernel_rfl), ?_⟩; conv => whnf)))
      all_goals try (exfalso; simp only [decide_eq_true_eq, decide_eq_false_iff_not, Bool.not_eq_true', Bool.not_eq_false', Bool.not_eq_true, Bool.not_eq_false, beq_iff_eq, bne_iff_ne, beq_eq_false_iff_ne, bne_eq_false_iff_eq, ne_eq, Decidable.not_not] at *; first | omega | contradiction | (simp_all; done) | (simp_all; omega))
      · have hg := atC_err (s := s) (stamp := stamp) (by (try simp only [decide_eq_true_eq, decide_eq_false_iff_not, Bool.not_eq_true', Bool.not_eq_false', Bool.not_eq_true, Bool.not_eq_false, beq_iff_eq, bne_iff_ne, beq_eq_false_iff_ne, bne_eq_false_iff_eq, ne_eq, Decidable.not_not, Int.natCast_eq_zero] at *); first | omega | assumption | (simp_all; done) | (simp_all; omega))
        all_goals refine ⟨[], ?_⟩
        repeat (any_goals (first | exact True.intro | exact rfl | with_reducible_and_instances rfl | exact (by kernel_rfl) | refine And.intro ?_ ?_))
        all_goals conv => whnf
        rw [hg]; rfl
      have hf : (atC s stamp).2 = 0 := (by (try simp only [decide_eq_true_eq, decide_eq_false_iff_not, Bool.not_eq_true', Bool.not_eq_false', Bool.not_eq_true, Bool.not_eq_false, beq_iff_eq, bne_iff_ne, beq_eq_false_iff_ne, bne_eq_false_iff_eq, ne_eq, Decidable.not_not, Int.natCast_eq_zero] at *); first | omega | assumption | (simp_all; done) | (simp_all; omega))
      have hT := (atC_zero hf).2.1
      have hT' := of_decide_eq_true hT
      all_goals try (refine Or.inl ?_; conv => whnf)
      repeat (any_goals (first
        | exact True.intro
        | (refine And.intro (fun _ => ?_) tf; conv => whnf)
        | (refine And.intro ft (fun _ => ?_); conv => whnf)
        | (refine And.intro (by kernel_rfl) ?_; conv => whnf)
        | (refine And.intro (by decide) ?_; conv => whnf)
        | (refine And.intro (fun _ => ?_) (fun h => absurd h (by decide)); conv => whnf)
        | (refine And.intro (fun h => absurd h (by decide)) (fun _ => ?_); conv => whnf)
        | (refine And.intro (fun _ => ?_) (fun _ => ?_) <;> conv => whnf)))
      refine ⟨Nat, fun j => j ≤ s.list.length, fun j => ([(13, iA j), (12, .own 3), (10, .ptr 2 0), (0, iA s.rho), (2, iA stamp)], [cR s, .sl 4 (s.list.map sR), .cells [iA (atC s stamp).1.1, iA (atC s stamp).1.2], .sl 4 (s.list.map sR)]), fun j => s.list.length - j, ⟨0, Nat.zero_le _, ?_⟩, ?_⟩
      · all_goals refine ⟨[], ?_⟩
        repeat (any_goals (first | exact True.intro | exact rfl | with_reducible_and_instances rfl | exact (by kernel_rfl) | refine And.intro ?_ ?_))
        all_goals conv => whnf
      rintro j hj
      conv => whnf
      by_cases hjl : j < s.list.length
      · have hx : s.list[j]? = some s.list[j] := List.getElem?_eq_getElem hjl
        have hm := List.getElem_mem hjl
        generalize s.list[j] = x at hx hm
        have hxs := hS x hm
        obtain ⟨w1, w2, w3⟩ := width_in hf hm
        have hro := (atR_out w1).2.2.1
        have e4 := (atR_out w1).2.2.2.2
        have hxs' := hxs
        simp [okS, isT] at hxs'
        have hfar := far_out x stamp
        have hfl : farZ x stamp ≤ 4611686018427387903 := hfar.2.2.2.2 _ (by omega) (by omega) (by omega) (by omega)
        have sl := slack_sat (farZ x stamp) s.rho (by unfold farA; exact decide_eq_true (by omega)) hro
        have hsl := slack_le (farZ x stamp) s.rho hro (by omega) (by omega)
        have u1 : IntKind.i64.wrap (stamp - x.got) = stamp - x.got := wi (by omega) (by omega)
        have u2 : IntKind.i64.wrap (x.got - stamp) = x.got - stamp := wi (by omega) (by omega)
        have u3 : IntKind.i64.wrap (stamp - x.sent) = stamp - x.sent := wi (by omega) (by omega)
        have u4 : IntKind.i64.wrap (x.sent - stamp) = x.sent - stamp := wi (by omega) (by omega)
        have hfe : farZ x stamp = mx2 (mx2 (mx2 (IntKind.i64.wrap (stamp - x.got)) (IntKind.i64.wrap (x.got - stamp))) (IntKind.i64.wrap (stamp - x.sent))) (IntKind.i64.wrap (x.sent - stamp)) := by rw [u1, u2, u3, u4]; rfl
        rw [hfe] at sl w3 hsl
        generalize slackZ _ s.rho = S at sl w3 hsl
        have ht : tripZ x = (x.came - x.asked) - (x.sent - x.got) := by unfold tripZ; rw [if_pos hxs]
        have hb : 0 ≤ (atC s stamp).1.1 ∧ (atC s stamp).1.1 ≤ (atC s stamp).1.2 ∧ (atC s stamp).1.2 ≤ 4611686018427387903 := by
          have w2 := w2
          unfold withB okG at w2
          rw [e4] at w2
          simp only [Bool.and_eq_true, decide_eq_true_eq] at w2
          unfold atLo atHi at w2
          omega
        have v1 : IntKind.i64.wrap (2 * S) = 2 * S := wi (by omega) (by omega)
        have v2 : IntKind.i64.wrap (tripZ x + 2 * S) = tripZ x + 2 * S := wi (by omega) (by omega)
        have v3 : IntKind.i64.wrap (tripZ x + 2 * S + 4) = tripZ x + 2 * S + 4 := wi (by omega) (by omega)
        have v4 : IntKind.i64.wrap ((atC s stamp).1.2 - (atC s stamp).1.1) = (atC s stamp).1.2 - (atC s stamp).1.1 := wi (by omega) (by omega)
        repeat (any_goals (first
          | exact True.intro
          | (refine Or.inl ?_; conv => whnf)
          | (refine And.intro (fun _ => ?_) tf; conv => whnf)
          | (refine And.intro ft (fun _ => ?_); conv => whnf)
          | (refine And.intro (by kernel_rfl) ?_; conv => whnf)
          | (refine And.intro (by decide) ?_; conv => whnf)
          | (refine And.intro (fun _ => ?_) (fun h => absurd h (by decide)); conv => whnf)
          | (refine And.intro (fun h => absurd h (by decide)) (fun _ => ?_); conv => whnf)
          | (refine And.intro (fun _ => ?_) (fun h => absurd h (by simpa using hjl)); conv => whnf)
          | (refine ⟨_, rfl, by simpa using hjl, ?_⟩; conv => whnf)
          | (refine ⟨_, map_get hx, ?_⟩; conv => whnf)
          | (refine And.intro (fun _ => ?_) (fun _ => ?_) <;> conv => whnf)
          | (refine ⟨_, _, max4, ?_⟩; conv => whnf)
          | (refine ⟨_, _, sl.pu rfl rfl, ?_⟩; conv => whnf)
          | (refine ⟨_, _, (at_sat x stamp s.rho hst.1 hst.2).pu rfl rfl, ?_⟩; conv => whnf)
          | (refine ⟨_, _, (within_sat _ _).pu rfl rfl, ?_⟩; conv => whnf)
          | (refine ⟨_, _, (trip_sat x).pu rfl rfl, ?_⟩; conv => whnf)))
        all_goals try (exfalso; simp only [decide_eq_true_eq, decide_eq_false_iff_not, Bool.not_eq_true', Bool.not_eq_false', Bool.not_eq_true, Bool.not_eq_false, beq_iff_eq, bne_iff_ne, beq_eq_false_iff_ne, bne_eq_false_iff_eq, ne_eq, Decidable.not_not] at *; first | omega | contradiction | (simp_all; done) | (simp_all; omega))
        · refine ⟨j + 1, hjl, show s.list.length - (j + 1) < s.list.length - j by omega, ?_⟩
          all_goals refine ⟨[], ?_⟩
          repeat (any_goals (first | exact True.intro | exact rfl | with_reducible_and_instances rfl | exact (by kernel_rfl) | refine And.intro ?_ ?_))
          all_goals conv => whnf
          exact wk1 (by omega)
      · have hne : 0 < s.list.length := List.length_pos_iff.2 (atC_zero hf).1
        repeat (any_goals (first
          | exact True.intro
          | (refine Or.inl ?_; conv => whnf)
          | (refine And.intro (fun _ => ?_) tf; conv => whnf)
          | (refine And.intro ft (fun _ => ?_); conv => whnf)
          | (refine And.intro (by kernel_rfl) ?_; conv => whnf)
          | (refine And.intro (by decide) ?_; conv => whnf)
          | (refine And.intro (fun _ => ?_) (fun h => absurd h (by decide)); conv => whnf)
          | (refine And.intro (fun h => absurd h (by decide)) (fun _ => ?_); conv => whnf)
          | (refine And.intro (fun h => absurd h (by simpa using hjl)) (fun _ => ?_); conv => whnf)
          | (refine And.intro (fun _ => ?_) (fun _ => ?_) <;> conv => whnf)))
        all_goals try (exfalso; simp only [decide_eq_true_eq, decide_eq_false_iff_not, Bool.not_eq_true', Bool.not_eq_false', Bool.not_eq_true, Bool.not_eq_false, beq_iff_eq, bne_iff_ne, beq_eq_false_iff_ne, bne_eq_false_iff_eq, ne_eq, Decidable.not_not] at *; first | omega | contradiction | (simp_all; done) | (simp_all; omega))
        rw [decide_eq_true (by rw [List.length_map]; omega)]
        all_goals refine ⟨[], ?_⟩
        repeat (any_goals (first | exact True.intro | exact rfl | with_reducible_and_instances rfl | exact (by kernel_rfl) | refine And.intro ?_ ?_))
        all_goals conv => whnf
  · have n1 := new_err rho 2 (by simp at hok; exact .inl hok)
    refine sat_of_vc (T := tiOf Try.prog) (E := E0) Try.func7 rfl rfl hE0 hm0 rfl ?_
    conv => whnf
    repeat (any_goals (first
      | exact True.intro
      | (refine Or.inl ?_; conv => whnf)
      | (refine And.intro (fun _ => ?_) tf; conv => whnf)
      | (refine And.intro ft (fun _ => ?_); conv => whnf)
      | (refine And.intro (by kernel_rfl) ?_; conv => whnf)
      | (refine And.intro (by decide) ?_; conv => whnf)
      | (refine And.intro (fun _ => ?_) (fun h => absurd h (by decide)); conv => whnf)
      | (refine And.intro (fun h => absurd h (by decide)) (fun _ => ?_); conv => whnf)
      | (refine And.intro (fun _ => ?_) (fun _ => ?_) <;> conv => whnf)
      | (refine ⟨_, _, alive_sat.pu rfl rfl, ?_⟩; conv => whnf)
      | (refine ⟨_, _, n1.pu rfl rfl, ?_⟩; conv => whnf)
      | (refine ⟨_, _, eqN (by kernel_rfl), ?_⟩; conv => whnf)))
    all_goals try (exfalso; simp only [decide_eq_true_eq, decide_eq_false_iff_not, Bool.not_eq_true', Bool.not_eq_false', Bool.not_eq_true, Bool.not_eq_false, beq_iff_eq, bne_iff_ne, beq_eq_false_iff_ne, bne_eq_false_iff_eq, ne_eq, Decidable.not_not] at *; first | omega | contradiction | (simp_all; done) | (simp_all; omega))
    all_goals refine ⟨[], ?_⟩
    repeat (any_goals (first | exact True.intro | exact rfl | with_reducible_and_instances rfl | exact (by kernel_rfl) | refine And.intro ?_ ?_))
    all_goals conv => whnf
theorem width_law (H : Type) (enc : TypeId × Value → H) : LawWalk H enc Try.prog 7 Try.f7 :=
  lawWalk_of_sat (by kernel_rfl) fun args h => by
    obtain ⟨a, _, rfl, h1, h⟩ := h
    obtain ⟨x, _, rfl, h2, h⟩ := h
    obtain ⟨b, _, rfl, h4, h⟩ := h
    obtain rfl := h
    obtain ⟨a, rfl, _⟩ := ty_i64 h1 Try.underlying2
    obtain ⟨l, rfl, _⟩ := ty_smps h2
    obtain ⟨b, rfl, hb⟩ := ty_i64 h4 Try.underlying2
    exact width_sat a b l hb
end Go.Proofs.Ytgidaifoiljgoaa
/- The document's sweep: Votes, Best, Agree. -/
namespace Go.Proofs.Ytgidaifoiljgoaa
set_option linter.unusedSimpArgs false
set_option linter.unusedVariables false
open Go.RowKit
set_option maxRecDepth 100000
def hasG (x : Int) (g : Int × Int) : Bool := decide (g.1 ≤ x ∧ x ≤ g.2)
def votesN (x : Int) (gs : List (Int × Int)) : Nat := gs.countP (hasG x)
theorem votes_sat (x : Int) (gs : List (Int × Int)) (hn : gs.length ≤ 1000000000) : Sat Try.prog 94 [iA x, .d (.sl 2 (gs.map gR))] [] (iA (votesN x gs)) [] := by
  have hm : (gs.map gR).length = gs.length := List.length_map _
  refine sat_of_vc (T := tiOf Try.prog) (E := E0) Try.func94 rfl rfl hE0 hm0 rfl ?_
  conv => whnf
  repeat (any_goals (first
    | exact True.intro
    | (refine Or.inl ?_; conv => whnf)
    | (refine And.intro (fun _ => ?_) tf; conv => whnf)
    | (refine And.intro ft (fun _ => ?_); conv => whnf)
    | (refine And.intro (by kernel_rfl) ?_; conv => whnf)
    | (refine And.intro (by decide) ?_; conv => whnf)
    | (refine And.intro (fun _ => ?_) (fun h => absurd h (by decide)); conv => whnf)
    | (refine And.intro (fun h => absurd h (by decide)) (fun _ => ?_); conv => whnf)
    | (refine And.intro (fun _ => ?_) (fun _ => ?_) <;> conv => whnf)))
  refine ⟨Nat, fun k => k ≤ gs.length, fun k => ([(6, iA k), (5, iA (votesN x (gs.take k))), (0, iA x), (1, .d (.sl 2 (gs.map gR)))], []), fun k => gs.length - k, ⟨0, Nat.zero_le _, ?_⟩, ?_⟩
  · all_goals refine ⟨[], ?_⟩
    repeat (any_goals (first | exact True.intro | exact rfl | with_reducible_and_instances rfl | exact (by kernel_rfl) | refine And.intro ?_ ?_))
    all_goals conv => whnf
  intro k hk
  conv => whnf
  have hv : votesN x (gs.take k) ≤ gs.length := Nat.le_trans List.countP_le_length (by rw [List.length_take]; omega)
  by_cases hlt : k < gs.length
  · have hx : gs[k]? = some gs[k] := List.getElem?_eq_getElem hlt
    generalize gs[k] = g at hx
    have hst : votesN x (gs.take (k + 1)) = votesN x (gs.take k) + if hasG x g = true then 1 else 0 := count_take_succ hx
    have nx : ∀ b : Bool, hasG x g = b → votesN x (gs.take (k + 1)) = votesN x (gs.take k) + if b = true then 1 else 0 := fun b h => by rw [hst, h]
    repeat (any_goals (first
      | exact True.intro
      | (refine Or.inl ?_; conv => whnf)
      | (refine And.intro (fun _ => ?_) tf; conv => whnf)
      | (refine And.intro ft (fun _ => ?_); conv => whnf)
      | (refine And.intro (by kernel_rfl) ?_; conv => whnf)
      | (refine And.intro (by decide) ?_; conv => whnf)
      | (refine And.intro (fun _ => ?_) (fun h => absurd h (by decide)); conv => whnf)
      | (refine And.intro (fun h => absurd h (by decide)) (fun _ => ?_); conv => whnf)
      | (refine ⟨k, _, rfl, map_get hx, ?_⟩; conv => whnf)
      | (refine And.intro (fun _ => ?_) (fun _ => ?_) <;> conv => whnf)
      | (refine ⟨_, _, (refRight_sat g).pu rfl rfl, ?_⟩; conv => whnf)))
    all_goals try (exfalso; simp only [decide_eq_true_eq, decide_eq_false_iff_not, Bool.not_eq_true', Bool.not_eq_false', Bool.not_eq_true, Bool.not_eq_false, beq_iff_eq, bne_iff_ne, beq_eq_false_iff_ne, bne_eq_false_iff_eq, ne_eq, Decidable.not_not] at *; first | omega | contradiction | (simp_all; done) | (simp_all; omega))
    · have h : hasG x g = true := decide_eq_true ⟨(by (try simp only [decide_eq_true_eq, decide_eq_false_iff_not, Bool.not_eq_true', Bool.not_eq_false', Bool.not_eq_true, Bool.not_eq_false, beq_iff_eq, bne_iff_ne, beq_eq_false_iff_ne, bne_eq_false_iff_eq, ne_eq, Decidable.not_not, Int.natCast_eq_zero] at *); first | omega | assumption | (simp_all; done) | (simp_all; omega)), (by (try simp only [decide_eq_true_eq, decide_eq_false_iff_not, Bool.not_eq_true', Bool.not_eq_false', Bool.not_eq_true, Bool.not_eq_false, beq_iff_eq, bne_iff_ne, beq_eq_false_iff_ne, bne_eq_false_iff_eq, ne_eq, Decidable.not_not, Int.natCast_eq_zero] at *); first | omega | assumption | (simp_all; done) | (simp_all; omega))⟩
      refine ⟨k + 1, hlt, show gs.length - (k + 1) < gs.length - k by omega, ?_⟩
      all_goals refine ⟨[], ?_⟩
      repeat (any_goals (first | exact True.intro | exact rfl | with_reducible_and_instances rfl | exact (by kernel_rfl) | refine And.intro ?_ ?_))
      all_goals conv => whnf
      · exact wk1 (by omega)
      · rw [nx _ h]
        exact wk1 (by omega)
    · have h : hasG x g = false := decide_eq_false fun q => by have := q.2; first | omega | (simp_all; done) | (simp_all; omega)
      refine ⟨k + 1, hlt, show gs.length - (k + 1) < gs.length - k by omega, ?_⟩
      all_goals refine ⟨[], ?_⟩
      repeat (any_goals (first | exact True.intro | exact rfl | with_reducible_and_instances rfl | exact (by kernel_rfl) | refine And.intro ?_ ?_))
      all_goals conv => whnf
      · exact wk1 (by omega)
      · rw [nx _ h]; rfl
    · have h : hasG x g = false := decide_eq_false fun q => by have := q.1; first | omega | (simp_all; done) | (simp_all; omega)
      refine ⟨k + 1, hlt, show gs.length - (k + 1) < gs.length - k by omega, ?_⟩
      all_goals refine ⟨[], ?_⟩
      repeat (any_goals (first | exact True.intro | exact rfl | with_reducible_and_instances rfl | exact (by kernel_rfl) | refine And.intro ?_ ?_))
      all_goals conv => whnf
      · exact wk1 (by omega)
      · rw [nx _ h]; rfl
    · have h : hasG x g = false := decide_eq_false fun q => by have : okG g = true := decide_eq_true (by omega); simp_all
      refine ⟨k + 1, hlt, show gs.length - (k + 1) < gs.length - k by omega, ?_⟩
      all_goals refine ⟨[], ?_⟩
      repeat (any_goals (first | exact True.intro | exact rfl | with_reducible_and_instances rfl | exact (by kernel_rfl) | refine And.intro ?_ ?_))
      all_goals conv => whnf
      · exact wk1 (by omega)
      · rw [nx _ h]; rfl
  · have hke : k = gs.length := by omega
    subst hke
    repeat (any_goals (first
      | exact True.intro
      | (refine Or.inl ?_; conv => whnf)
      | (refine And.intro (fun _ => ?_) tf; conv => whnf)
      | (refine And.intro ft (fun _ => ?_); conv => whnf)
      | (refine And.intro (by kernel_rfl) ?_; conv => whnf)
      | (refine And.intro (by decide) ?_; conv => whnf)
      | (refine And.intro (fun _ => ?_) (fun h => absurd h (by decide)); conv => whnf)
      | (refine And.intro (fun h => absurd h (by decide)) (fun _ => ?_); conv => whnf)
      | (refine And.intro (fun _ => ?_) (fun _ => ?_) <;> conv => whnf)))
    all_goals try (exfalso; simp only [decide_eq_true_eq, decide_eq_false_iff_not, Bool.not_eq_true', Bool.not_eq_false', Bool.not_eq_true, Bool.not_eq_false, beq_iff_eq, bne_iff_ne, beq_eq_false_iff_ne, bne_eq_false_iff_eq, ne_eq, Decidable.not_not] at *; first | omega | contradiction | (simp_all; done) | (simp_all; omega))
    all_goals refine ⟨[], ?_⟩
    repeat (any_goals (first | exact True.intro | exact rfl | with_reducible_and_instances rfl | exact (by kernel_rfl) | refine And.intro ?_ ?_))
    all_goals conv => whnf
    rw [List.take_length]
def bstep (gs : List (Int × Int)) (s : Nat × Int) (g : Int × Int) : Nat × Int :=
  if s.1 < votesN g.1 gs ∨ (votesN g.1 gs = s.1 ∧ 0 < votesN g.1 gs ∧ g.1 < s.2) then (votesN g.1 gs, g.1) else s
def bestS (gs : List (Int × Int)) : Nat × Int := gs.foldl (bstep gs) (0, 0)
def hstep (x : Int) (h : Int) (g : Int × Int) : Int := if hasG x g = true then min h g.2 else h
def bestH (x : Int) (gs : List (Int × Int)) : Int := gs.foldl (hstep x) 9223372036854775807
def bestR (gs : List (Int × Int)) : (Int × Int) × Nat := if (bestS gs).1 = 0 then ((0, 0), 0) else (((bestS gs).2, bestH (bestS gs).2 gs), (bestS gs).1)
theorem votes_le (x : Int) (gs : List (Int × Int)) : votesN x gs ≤ gs.length := List.countP_le_length
theorem best_sat (gs : List (Int × Int)) (hn : gs.length ≤ 1000000000) : Sat Try.prog 70 [.d (.sl 2 (gs.map gR))] [] (.tup [gA (bestR gs).1, iA (bestR gs).2]) [] := by
  have hm : (gs.map gR).length = gs.length := List.length_map _
  refine sat_of_vc (T := tiOf Try.prog) (E := E0) Try.func70 rfl rfl hE0 hm0 rfl ?_
  conv => whnf
  repeat (any_goals (first
    | exact True.intro
    | (refine Or.inl ?_; conv => whnf)
    | (refine And.intro (fun _ => ?_) tf; conv => whnf)
    | (refine And.intro ft (fun _ => ?_); conv => whnf)
    | (refine And.intro (by kernel_rfl) ?_; conv => whnf)
    | (refine And.intro (by decide) ?_; conv => whnf)
    | (refine And.intro (fun _ => ?_) (fun h => absurd h (by decide)); conv => whnf)
    | (refine And.intro (fun h => absurd h (by decide)) (fun _ => ?_); conv => whnf)
    | (refine And.intro (fun _ => ?_) (fun _ => ?_) <;> conv => whnf)))
  refine ⟨Nat, fun k => k ≤ gs.length, fun k => ([(6, iA k), (4, iA ((gs.take k).foldl (bstep gs) (0, 0)).1), (5, .ptr 1 0), (2, .ptr 0 0), (0, .d (.sl 2 (gs.map gR)))], [.cells [iA 0, iA 0], .cells [iA ((gs.take k).foldl (bstep gs) (0, 0)).2, iA ((gs.take k).foldl (bstep gs) (0, 0)).2]]), fun k => gs.length - k, ⟨0, Nat.zero_le _, ?_⟩, ?_⟩
  · all_goals refine ⟨[], ?_⟩
    repeat (any_goals (first | exact True.intro | exact rfl | with_reducible_and_instances rfl | exact (by kernel_rfl) | refine And.intro ?_ ?_))
    all_goals conv => whnf
  intro k hk
  conv => whnf
  by_cases hlt : k < gs.length
  · have hx : gs[k]? = some gs[k] := List.getElem?_eq_getElem hlt
    generalize gs[k] = g at hx
    have vs := votes_sat g.1 gs hn
    have hst : (gs.take (k + 1)).foldl (bstep gs) (0, 0) = bstep gs ((gs.take k).foldl (bstep gs) (0, 0)) g := foldl_take_succ hx
    have hs1 : (((gs.take k).foldl (bstep gs) (0, 0)).1 < votesN g.1 gs ∨ (votesN g.1 gs = ((gs.take k).foldl (bstep gs) (0, 0)).1 ∧ 0 < votesN g.1 gs ∧ g.1 < ((gs.take k).foldl (bstep gs) (0, 0)).2)) → bstep gs ((gs.take k).foldl (bstep gs) (0, 0)) g = (votesN g.1 gs, g.1) := fun h => if_pos h
    have hs0 : ¬ (((gs.take k).foldl (bstep gs) (0, 0)).1 < votesN g.1 gs ∨ (votesN g.1 gs = ((gs.take k).foldl (bstep gs) (0, 0)).1 ∧ 0 < votesN g.1 gs ∧ g.1 < ((gs.take k).foldl (bstep gs) (0, 0)).2)) → bstep gs ((gs.take k).foldl (bstep gs) (0, 0)) g = (gs.take k).foldl (bstep gs) (0, 0) := fun h => if_neg h
    repeat (any_goals (first
      | exact True.intro
      | (refine Or.inl ?_; conv => whnf)
      | (refine And.intro (fun _ => ?_) tf; conv => whnf)
      | (refine And.intro ft (fun _ => ?_); conv => whnf)
      | (refine And.intro (by kernel_rfl) ?_; conv => whnf)
      | (refine And.intro (by decide) ?_; conv => whnf)
      | (refine And.intro (fun _ => ?_) (fun h => absurd h (by decide)); conv => whnf)
      | (refine And.intro (fun h => absurd h (by decide)) (fun _ => ?_); conv => whnf)
      | (refine ⟨k, _, rfl, map_get hx, ?_⟩; conv => whnf)
      | (refine And.intro (fun _ => ?_) (fun _ => ?_) <;> conv => whnf)
      | (refine ⟨_, _, vs.pu rfl rfl, ?_⟩; conv => whnf)))
    all_goals try (exfalso; simp only [decide_eq_true_eq, decide_eq_false_iff_not, Bool.not_eq_true', Bool.not_eq_false', Bool.not_eq_true, Bool.not_eq_false, beq_iff_eq, bne_iff_ne, beq_eq_false_iff_ne, bne_eq_false_iff_eq, ne_eq, Decidable.not_not] at *; first | omega | contradiction | (simp_all; done) | (simp_all; omega))
    all_goals refine ⟨k + 1, hlt, show gs.length - (k + 1) < gs.length - k by omega, ?_⟩
    · have h := hs1 (by simp only [decide_eq_true_eq, beq_iff_eq] at *; omega)
      rw [h] at hst
      all_goals refine ⟨[], ?_⟩
      repeat (any_goals (first | exact True.intro | exact rfl | with_reducible_and_instances rfl | exact (by kernel_rfl) | refine And.intro ?_ ?_))
      all_goals conv => whnf
      · exact wk1 (by omega)
      all_goals rw [hst]
    · have h := hs0 (by simp only [decide_eq_true_eq, decide_eq_false_iff_not, beq_iff_eq] at *; omega)
      rw [h] at hst
      all_goals refine ⟨[], ?_⟩
      repeat (any_goals (first | exact True.intro | exact rfl | with_reducible_and_instances rfl | exact (by kernel_rfl) | refine And.intro ?_ ?_))
      all_goals conv => whnf
      · exact wk1 (by omega)
      all_goals rw [hst]
    · have h := hs0 (by simp only [decide_eq_true_eq, decide_eq_false_iff_not, beq_iff_eq] at *; omega)
      rw [h] at hst
      all_goals refine ⟨[], ?_⟩
      repeat (any_goals (first | exact True.intro | exact rfl | with_reducible_and_instances rfl | exact (by kernel_rfl) | refine And.intro ?_ ?_))
      all_goals conv => whnf
      · exact wk1 (by omega)
      all_goals rw [hst]
    · have h := hs0 (by simp only [decide_eq_true_eq, decide_eq_false_iff_not, beq_eq_false_iff_ne] at *; omega)
      rw [h] at hst
      all_goals refine ⟨[], ?_⟩
      repeat (any_goals (first | exact True.intro | exact rfl | with_reducible_and_instances rfl | exact (by kernel_rfl) | refine And.intro ?_ ?_))
      all_goals conv => whnf
      · exact wk1 (by omega)
      all_goals rw [hst]
    · have h := hs1 (by simp only [decide_eq_true_eq, beq_iff_eq] at *; omega)
      rw [h] at hst
      all_goals refine ⟨[], ?_⟩
      repeat (any_goals (first | exact True.intro | exact rfl | with_reducible_and_instances rfl | exact (by kernel_rfl) | refine And.intro ?_ ?_))
      all_goals conv => whnf
      · exact wk1 (by omega)
      all_goals rw [hst]
  · have hke : k = gs.length := by omega
    subst hke
    have hb : (gs.take gs.length).foldl (bstep gs) (0, 0) = bestS gs := by rw [List.take_length]; rfl
    repeat (any_goals (first
      | exact True.intro
      | (refine Or.inl ?_; conv => whnf)
      | (refine And.intro (fun _ => ?_) tf; conv => whnf)
      | (refine And.intro ft (fun _ => ?_); conv => whnf)
      | (refine And.intro (by kernel_rfl) ?_; conv => whnf)
      | (refine And.intro (by decide) ?_; conv => whnf)
      | (refine And.intro (fun _ => ?_) (fun h => absurd h (by decide)); conv => whnf)
      | (refine And.intro (fun h => absurd h (by decide)) (fun _ => ?_); conv => whnf)
      | (refine And.intro (fun _ => ?_) (fun _ => ?_) <;> conv => whnf)))
    all_goals try (exfalso; simp only [decide_eq_true_eq, decide_eq_false_iff_not, Bool.not_eq_true', Bool.not_eq_false', Bool.not_eq_true, Bool.not_eq_false, beq_iff_eq, bne_iff_ne, beq_eq_false_iff_ne, bne_eq_false_iff_eq, ne_eq, Decidable.not_not] at *; first | omega | contradiction | (simp_all; done) | (simp_all; omega))
    · have hr : bestR gs = ((0, 0), 0) := if_pos (by have h := ‹(_ == _) = true›; rw [hb] at h; simp only [beq_iff_eq] at h; omega)
      rw [hr]
      all_goals refine ⟨[], ?_⟩
      repeat (any_goals (first | exact True.intro | exact rfl | with_reducible_and_instances rfl | exact (by kernel_rfl) | refine And.intro ?_ ?_))
      all_goals conv => whnf
    · have hr : bestR gs = (((bestS gs).2, bestH (bestS gs).2 gs), (bestS gs).1) := if_neg (by have h := ‹(_ == _) = false›; rw [hb] at h; simp only [beq_eq_false_iff_ne] at h; omega)
      rw [hr]
      rw [hb]
      generalize (bestS gs).2 = x
      refine ⟨Nat, fun k => k ≤ gs.length, fun k => ([(8, iA k), (4, iA (bestS gs).1), (5, .ptr 1 0), (2, .ptr 0 0), (0, .d (.sl 2 (gs.map gR)))], [.cells [iA 0, iA 0], .cells [iA x, iA ((gs.take k).foldl (hstep x) 9223372036854775807)]]), fun k => gs.length - k, ⟨0, Nat.zero_le _, ?_⟩, ?_⟩
      · all_goals refine ⟨[], ?_⟩
        repeat (any_goals (first | exact True.intro | exact rfl | with_reducible_and_instances rfl | exact (by kernel_rfl) | refine And.intro ?_ ?_))
        all_goals conv => whnf
        all_goals rw [hb]
      intro k hk
      conv => whnf
      by_cases hlt : k < gs.length
      · have hx : gs[k]? = some gs[k] := List.getElem?_eq_getElem hlt
        generalize gs[k] = g at hx
        have hst : (gs.take (k + 1)).foldl (hstep x) 9223372036854775807 = hstep x ((gs.take k).foldl (hstep x) 9223372036854775807) g := foldl_take_succ hx
        have nx : ∀ b : Bool, hasG x g = b → (gs.take (k + 1)).foldl (hstep x) 9223372036854775807 = if b = true then min ((gs.take k).foldl (hstep x) 9223372036854775807) g.2 else (gs.take k).foldl (hstep x) 9223372036854775807 := fun b h => by rw [hst]; unfold hstep; rw [h]
        repeat (any_goals (first
          | exact True.intro
          | (refine Or.inl ?_; conv => whnf)
          | (refine And.intro (fun _ => ?_) tf; conv => whnf)
          | (refine And.intro ft (fun _ => ?_); conv => whnf)
          | (refine And.intro (by kernel_rfl) ?_; conv => whnf)
          | (refine And.intro (by decide) ?_; conv => whnf)
          | (refine And.intro (fun _ => ?_) (fun h => absurd h (by decide)); conv => whnf)
          | (refine And.intro (fun h => absurd h (by decide)) (fun _ => ?_); conv => whnf)
          | (refine ⟨k, _, rfl, map_get hx, ?_⟩; conv => whnf)
          | (refine And.intro (fun _ => ?_) (fun _ => ?_) <;> conv => whnf)
          | (refine ⟨_, _, (refRight_sat g).pu rfl rfl, ?_⟩; conv => whnf)))
        all_goals try (exfalso; simp only [decide_eq_true_eq, decide_eq_false_iff_not, Bool.not_eq_true', Bool.not_eq_false', Bool.not_eq_true, Bool.not_eq_false, beq_iff_eq, bne_iff_ne, beq_eq_false_iff_ne, bne_eq_false_iff_eq, ne_eq, Decidable.not_not] at *; first | omega | contradiction | (simp_all; done) | (simp_all; omega))
        all_goals refine ⟨k + 1, hlt, show gs.length - (k + 1) < gs.length - k by omega, ?_⟩
        · have h := nx true (decide_eq_true ⟨of_decide_eq_true ‹decide (g.1 ≤ x) = true›, of_decide_eq_true ‹decide (g.2 ≥ x) = true›⟩)
          all_goals refine ⟨[], ?_⟩
          repeat (any_goals (first | exact True.intro | exact rfl | with_reducible_and_instances rfl | exact (by kernel_rfl) | refine And.intro ?_ ?_))
          all_goals conv => whnf
          · exact wk1 (by omega)
          · refine congrArg iA ?_
            rw [h, if_pos rfl]
            split <;> omega
        · have h := nx false (decide_eq_false fun q => of_decide_eq_false ‹decide (g.2 ≥ x) = false› q.2)
          all_goals refine ⟨[], ?_⟩
          repeat (any_goals (first | exact True.intro | exact rfl | with_reducible_and_instances rfl | exact (by kernel_rfl) | refine And.intro ?_ ?_))
          all_goals conv => whnf
          · exact wk1 (by omega)
          · rw [h]; rfl
        · have h := nx false (decide_eq_false fun q => of_decide_eq_false ‹decide (g.1 ≤ x) = false› q.1)
          all_goals refine ⟨[], ?_⟩
          repeat (any_goals (first | exact True.intro | exact rfl | with_reducible_and_instances rfl | exact (by kernel_rfl) | refine And.intro ?_ ?_))
          all_goals conv => whnf
          · exact wk1 (by omega)
          · rw [h]; rfl
        · have h := nx false (decide_eq_false fun q => by have : okG g = true := decide_eq_true (by omega); simp_all)
          all_goals refine ⟨[], ?_⟩
          repeat (any_goals (first | exact True.intro | exact rfl | with_reducible_and_instances rfl | exact (by kernel_rfl) | refine And.intro ?_ ?_))
          all_goals conv => whnf
          · exact wk1 (by omega)
          · rw [h]; rfl
      · have hke : k = gs.length := by omega
        subst hke
        repeat (any_goals (first
          | exact True.intro
          | (refine Or.inl ?_; conv => whnf)
          | (refine And.intro (fun _ => ?_) tf; conv => whnf)
          | (refine And.intro ft (fun _ => ?_); conv => whnf)
          | (refine And.intro (by kernel_rfl) ?_; conv => whnf)
          | (refine And.intro (by decide) ?_; conv => whnf)
          | (refine And.intro (fun _ => ?_) (fun h => absurd h (by decide)); conv => whnf)
          | (refine And.intro (fun h => absurd h (by decide)) (fun _ => ?_); conv => whnf)
          | (refine And.intro (fun _ => ?_) (fun _ => ?_) <;> conv => whnf)))
        all_goals try (exfalso; simp only [decide_eq_true_eq, decide_eq_false_iff_not, Bool.not_eq_true', Bool.not_eq_false', Bool.not_eq_true, Bool.not_eq_false, beq_iff_eq, bne_iff_ne, beq_eq_false_iff_ne, bne_eq_false_iff_eq, ne_eq, Decidable.not_not] at *; first | omega | contradiction | (simp_all; done) | (simp_all; omega))
        all_goals refine ⟨[], ?_⟩
        repeat (any_goals (first | exact True.intro | exact rfl | with_reducible_and_instances rfl | exact (by kernel_rfl) | refine And.intro ?_ ?_))
        all_goals conv => whnf
        unfold bestH
        rw [List.take_length]
def agreeRef (gs : List (Int × Int)) : Bool := decide (0 < gs.length) && decide ((bestR gs).2 = gs.length)
theorem refAgree_sat (gs : List (Int × Int)) (hn : gs.length ≤ 1000000000) : Sat Try.prog 48 [.d (.sl 2 (gs.map gR))] [] (bA (agreeRef gs)) [] := by
  have hm : (gs.map gR).length = gs.length := List.length_map _
  have be := best_sat gs hn
  refine sat_of_vc (T := tiOf Try.prog) (E := E0) Try.func48 rfl rfl hE0 hm0 rfl ?_
  conv => whnf
  repeat (any_goals (first
    | exact True.intro
    | (refine Or.inl ?_; conv => whnf)
    | (refine And.intro (fun _ => ?_) tf; conv => whnf)
    | (refine And.intro ft (fun _ => ?_); conv => whnf)
    | (refine And.intro (by kernel_rfl) ?_; conv => whnf)
    | (refine And.intro (by decide) ?_; conv => whnf)
    | (refine And.intro (fun _ => ?_) (fun h => absurd h (by decide)); conv => whnf)
    | (refine And.intro (fun h => absurd h (by decide)) (fun _ => ?_); conv => whnf)
    | (refine And.intro (fun _ => ?_) (fun _ => ?_) <;> conv => whnf)
    | (refine ⟨_, _, be.pu rfl rfl, ?_⟩; conv => whnf)))
  · have h1 := of_decide_eq_true ‹decide ((_ : Int) > 0) = true›
    have hr : agreeRef gs = (((bestR gs).2 : Int) == ((gs.map gR).length : Int)) := by
      unfold agreeRef
      rw [decide_eq_true (by omega), Bool.true_and, hm, Bool.eq_iff_iff, decide_eq_true_eq, beq_iff_eq]
      omega
    rw [hr]
    all_goals refine ⟨[], ?_⟩
    repeat (any_goals (first | exact True.intro | exact rfl | with_reducible_and_instances rfl | exact (by kernel_rfl) | refine And.intro ?_ ?_))
    all_goals conv => whnf
  · have h1 := of_decide_eq_false ‹decide ((_ : Int) > 0) = false›
    have hr : agreeRef gs = false := by
      unfold agreeRef
      rw [decide_eq_false (by omega), Bool.false_and]
    rw [hr]
    all_goals refine ⟨[], ?_⟩
    repeat (any_goals (first | exact True.intro | exact rfl | with_reducible_and_instances rfl | exact (by kernel_rfl) | refine And.intro ?_ ?_))
    all_goals conv => whnf
end Go.Proofs.Ytgidaifoiljgoaa
/- The document's votes: plain laws. -/
namespace Go.Proofs.Ytgidaifoiljgoaa
set_option linter.unusedSimpArgs false
set_option linter.unusedVariables false
open Go.RowKit
theorem best_ge (gs : List (Int × Int)) : ∀ (l : List (Int × Int)) (s : Nat × Int), s.1 ≤ (l.foldl (bstep gs) s).1 ∧ ∀ g ∈ l, votesN g.1 gs ≤ (l.foldl (bstep gs) s).1
  | [], s => ⟨Nat.le_refl _, fun g hg => by simp at hg⟩
  | x :: l, s => by
    obtain ⟨h1, h2⟩ := best_ge gs l (bstep gs s x)
    have h3 : s.1 ≤ (bstep gs s x).1 ∧ votesN x.1 gs ≤ (bstep gs s x).1 := by
      unfold bstep
      split
      · rename_i h; rcases h with h | ⟨h, _⟩ <;> simp <;> omega
      · rename_i h; simp only [not_or, not_and] at h; simp; omega
    rw [List.foldl_cons]
    refine ⟨by omega, fun g hg => ?_⟩
    rcases List.mem_cons.1 hg with e | e
    · subst e; omega
    · exact h2 g e
theorem best_src (gs : List (Int × Int)) : ∀ (l : List (Int × Int)) (s : Nat × Int), l.foldl (bstep gs) s = s ∨ ∃ g ∈ l, l.foldl (bstep gs) s = (votesN g.1 gs, g.1)
  | [], s => .inl rfl
  | x :: l, s => by
    rw [List.foldl_cons]
    rcases best_src gs l (bstep gs s x) with h | ⟨g, hg, h⟩
    · rw [h]
      unfold bstep
      split
      · exact .inr ⟨x, List.mem_cons_self .., rfl⟩
      · exact .inl rfl
    · exact .inr ⟨g, List.mem_cons_of_mem _ hg, h⟩
theorem meetL_in (x : Int) : ∀ (gs : List (Int × Int)) (a : Int × Int), a.1 ≤ x → x ≤ a.2 → (∀ g ∈ gs, g.1 ≤ x ∧ x ≤ g.2) → (meetL a gs).1 ≤ x ∧ x ≤ (meetL a gs).2
  | [], a, h1, h2, _ => ⟨h1, h2⟩
  | g :: gs, a, h1, h2, h => by
    have hg := h g (List.mem_cons_self ..)
    have := meetL_in x gs (max a.1 g.1, min a.2 g.2) (by simp; omega) (by simp; omega) fun y hy => h y (List.mem_cons_of_mem _ hy)
    exact this
theorem meetL_src : ∀ (gs : List (Int × Int)) (a : Int × Int), (meetL a gs).1 = a.1 ∨ ∃ g ∈ gs, (meetL a gs).1 = g.1
  | [], a => .inl rfl
  | g :: gs, a => by
    have e : meetL a (g :: gs) = meetL (max a.1 g.1, min a.2 g.2) gs := rfl
    rw [e]
    rcases meetL_src gs (max a.1 g.1, min a.2 g.2) with h | ⟨y, hy, h⟩
    · rw [h]
      have : max a.1 g.1 = a.1 ∨ max a.1 g.1 = g.1 := by omega
      rcases this with q | q
      · exact .inl q
      · exact .inr ⟨g, List.mem_cons_self .., q⟩
    · exact .inr ⟨y, List.mem_cons_of_mem _ hy, h⟩
theorem votes_all {x : Int} {gs : List (Int × Int)} : votesN x gs = gs.length ↔ ∀ g ∈ gs, g.1 ≤ x ∧ x ≤ g.2 := by
  unfold votesN
  rw [List.countP_eq_length]
  constructor
  · intro h g hg; exact of_decide_eq_true (h g hg)
  · intro h g hg; exact decide_eq_true (h g hg)
theorem agree_same (gs : List (Int × Int)) (hin : ∀ g ∈ gs, -9223372036854775808 ≤ g.1 ∧ g.1 ≤ 9223372036854775807) : agreeRef gs = agreeB gs := by
  unfold agreeRef agreeB
  rcases Nat.eq_zero_or_pos gs.length with h0 | h0
  · rw [decide_eq_false (by omega)]; rfl
  rw [decide_eq_true h0, Bool.true_and, Bool.true_and]
  obtain ⟨b1, b2⟩ := best_ge gs gs (0, 0)
  have b3 := best_src gs gs (0, 0)
  have hb : ∀ n : Nat, 0 < n → ((bestR gs).2 = n ↔ (bestS gs).1 = n) := fun n hn => by
    unfold bestR
    split
    · rename_i h; rw [h]
    · exact Iff.rfl
  refine decide_eq_decide.2 ((hb _ h0).trans ⟨fun h => ?_, fun h => ?_⟩)
  · rcases b3 with e | ⟨g, hg, e⟩
    · have : bestS gs = (0, 0) := e
      rw [this] at h
      exact absurd h.symm (by simp; omega)
    · have e : bestS gs = _ := e
      rw [e] at h
      have hv := votes_all.1 h
      have hi := meetL_in g.1 gs allG (hin g hg).1 (hin g hg).2 hv
      unfold meetR foldR
      rw [if_neg, if_pos (show okG (meetL allG gs) = true from decide_eq_true (Int.le_trans hi.1 hi.2))]
      rw [show gs.all okG = true from List.all_eq_true.2 fun y hy => decide_eq_true (Int.le_trans (hv y hy).1 (hv y hy).2)]
      simp
  · obtain ⟨h1, h2, h3⟩ := meetR_ok h
    have h2 : (meetL allG gs).1 ≤ (meetL allG gs).2 := of_decide_eq_true h2
    have hall : ∀ g ∈ gs, g.1 ≤ (meetL allG gs).1 ∧ (meetL allG gs).1 ≤ g.2 := fun g hg => by
      have := meetL_le allG gs hg
      omega
    obtain ⟨g, hg, e⟩ : ∃ g ∈ gs, (meetL allG gs).1 = g.1 := by
      rcases meetL_src gs allG with e | e
      · obtain ⟨g, hg⟩ := List.exists_mem_of_length_pos h0
        refine ⟨g, hg, ?_⟩
        have := hall g hg
        have := hin g hg
        have : allG.1 = -9223372036854775808 := rfl
        omega
      · exact e
    have hv : votesN g.1 gs = gs.length := votes_all.2 (by rw [← e]; exact hall)
    have h4 := b2 g hg
    have h5 : (bestS gs).1 ≤ gs.length := by
      rcases b3 with e | ⟨y, hy, e⟩
      · have : bestS gs = (0, 0) := e
        rw [this]; exact Nat.zero_le _
      · have : bestS gs = _ := e
        rw [this]; exact votes_le _ _
    have h4 : votesN g.1 gs ≤ (bestS gs).1 := h4
    omega
end Go.Proofs.Ytgidaifoiljgoaa
/- ClockSound: plain laws; the sample of a probe. -/
namespace Go.Proofs.Ytgidaifoiljgoaa
set_option linter.unusedSimpArgs false
set_option linter.unusedVariables false
open Go.RowKit Go.Sort
set_option maxRecDepth 100000
/-- A sample of an honest clock: asked and came outside of two readings. -/
def TrueS (l : List (Int × Int)) (x : Smp) : Prop := ∃ a ∈ l, ∃ b ∈ l, a.1 ≤ b.1 ∧ x.got = a.2 ∧ x.sent = b.2 ∧ 0 ≤ x.asked ∧ x.asked ≤ a.1 ∧ b.1 ≤ x.came ∧ x.came ≤ 4611686018427387903
theorem true_okS {l : List (Int × Int)} {r : Int} (h : HonOK r l) {x : Smp} (hx : TrueS l x) : okS x = true := by
  obtain ⟨a, ha, b, hb, hab, e1, e2, h1, h2, h3, h4⟩ := hx
  have ta := h.2.1.1 a ha
  have tb := h.2.1.1 b hb
  unfold inT at ta tb
  have hc : a.2 ≤ b.2 := by
    by_cases q : ltP b a
    · have hn : ¬ ltP a b := by unfold ltP at q ⊢; omega
      obtain ⟨u1, u2, u3⟩ := (pair_all h hb ha hn).1
      have := u3 (by omega)
      omega
    · exact (pair_all h ha hb q).1.2.1
  unfold okS isT
  simp only [Bool.and_eq_true, decide_eq_true_eq]
  omega
theorem true_at {l : List (Int × Int)} {r : Int} (h : HonOK r l) {x : Smp} (hx : TrueS l x) {p : Int × Int} (hp : p ∈ l) : (atR x p.2 r).2 = 0 ∧ (atR x p.2 r).1.1 ≤ p.1 ∧ p.1 ≤ (atR x p.2 r).1.2 := by
  have hok := true_okS h hx
  obtain ⟨a, ha, b, hb, hab, e1, e2, h1, h2, h3, h4⟩ := hx
  have tp := h.2.1.1 p hp
  unfold inT at tp
  have g1 := (bounds_all h ha hp).1
  have g2 := (bounds_all h hb hp).2
  have hlo : atLo x p.2 r ≤ p.1 := by unfold atLo; rw [e1]; omega
  have hhi : p.1 ≤ atHi x p.2 r := by unfold atHi; rw [e2]; omega
  have ht : isT p.2 = true := by unfold isT; simp only [decide_eq_true_eq]; omega
  unfold atR
  rw [if_neg (by rw [hok]; simp), if_neg (by rw [ht, h.1]; simp), if_neg (by omega)]
  exact ⟨rfl, hlo, hhi⟩
theorem meet_true {l : List (Int × Int)} {r : Int} (h : HonOK r l) {ss : List Smp} (hs : ∀ x ∈ ss, TrueS l x) {p : Int × Int} (hp : p ∈ l) : (meetR (ss.map fun x => gapOf x p.2 r)).2 = 0 ∧ (meetR (ss.map fun x => gapOf x p.2 r)).1.1 ≤ p.1 ∧ p.1 ≤ (meetR (ss.map fun x => gapOf x p.2 r)).1.2 := by
  have tp := h.2.1.1 p hp
  unfold inT at tp
  have hin : ∀ g ∈ ss.map fun x => gapOf x p.2 r, g.1 ≤ p.1 ∧ p.1 ≤ g.2 := fun g hg => by
    obtain ⟨x, hx, rfl⟩ := List.mem_map.1 hg
    obtain ⟨a1, a2, a3⟩ := true_at h (hs x hx) hp
    unfold gapOf
    rw [if_pos a1]
    exact ⟨a2, a3⟩
  have hm := meetL_in p.1 _ allG (show (-9223372036854775808 : Int) ≤ p.1 by omega) (show p.1 ≤ 9223372036854775807 by omega) hin
  have ha : (ss.map fun x => gapOf x p.2 r).all okG = true := List.all_eq_true.2 fun g hg => decide_eq_true (by have := hin g hg; omega)
  unfold meetR foldR
  rw [if_neg (by rw [ha]; simp), if_pos (show okG (meetL allG _) = true from decide_eq_true (by omega))]
  exact ⟨rfl, hm.1, hm.2⟩
structure SInv (l : List (Int × Int)) (r : Int) (s : CSt) (many : Nat) : Prop where
  r : s.rho = r
  least : s.least = 2
  held : s.held = false
  streak : s.streak = many
  n8 : s.list.length ≤ 8
  all : ∀ x ∈ s.list, TrueS l x
theorem add_true {l : List (Int × Int)} {r : Int} (h : HonOK r l) {s : CSt} {many : Nat} (hm : many ≤ 1000) (I : SInv l r s many) {x : Smp} (hx : TrueS l x) : (addC s x).2 = 0 ∧ SInv l r (addC s x).1 (many + 1) ∧ (addC s x).1.list ≠ [] := by
  have hok := true_okS h hx
  obtain ⟨a, ha, b, hb, hab, e1, e2, h1, h2, h3, h4⟩ := hx
  have hx : TrueS l x := ⟨a, ha, b, hb, hab, e1, e2, h1, h2, h3, h4⟩
  obtain ⟨i1, i2, i3, i4, i5, i6⟩ := I
  have hk := keep_le s.list x i5
  have hall : ∀ y ∈ keepC (s.list ++ [x]), TrueS l y := fun y hy => by
    have : y ∈ s.list ++ [x] := by
      unfold keepC at hy
      split at hy
      · exact List.mem_of_mem_drop hy
      · exact hy
    rcases List.mem_append.1 this with q | q
    · exact i6 y q
    · rw [List.mem_singleton.1 q]; exact hx
  have hne : 0 < (keepC (s.list ++ [x])).length := by
    unfold keepC
    split
    · rw [List.length_drop]; omega
    · simp
  have hag : agreeB ((keepC (s.list ++ [x])).map fun o => gapOf o x.sent s.rho) = true := by
    rw [e2, i1]
    unfold agreeB
    rw [(meet_true h hall hb).1, List.length_map, decide_eq_true hne]; rfl
  have hkk : (if s.streak < 9223372036854775807 then s.streak + 1 else s.streak) = s.streak + 1 := if_pos (by omega)
  have hle : (if s.least ≤ s.streak + 1 then false else s.held) = false := by
    split
    · rfl
    · exact i3
  have e : addC s x = (⟨s.rho, s.least, false, s.streak + 1, keepC (s.list ++ [x])⟩, 0) := by
    unfold addC
    rw [if_neg (by rw [hok]; simp)]
    simp only [hag, hkk, hle, if_true]
  rw [e]
  refine ⟨rfl, ⟨i1, i2, rfl, ?_, hk.1, hall⟩, fun e => ?_⟩
  · show s.streak + 1 = ((many + 1 : Nat) : Int); omega
  · have e : keepC (s.list ++ [x]) = [] := e
    rw [e] at hne; simp at hne
theorem at_true {l : List (Int × Int)} {r : Int} (h : HonOK r l) {s : CSt} {many : Nat} (I : SInv l r s many) (hne : s.list ≠ []) {p : Int × Int} (hp : p ∈ l) : (atC s p.2).2 = 0 ∧ (atC s p.2).1.1 ≤ p.1 ∧ p.1 ≤ (atC s p.2).1.2 := by
  obtain ⟨i1, i2, i3, i4, i5, i6⟩ := I
  have tp := h.2.1.1 p hp
  unfold inT at tp
  have ht : isT p.2 = true := by unfold isT; simp only [decide_eq_true_eq]; omega
  have hf : s.list.find? (fun x => decide ((atR x p.2 s.rho).2 ≠ 0)) = none := by
    rw [List.find?_eq_none]
    intro x hx
    rw [i1, (true_at h (i6 x hx) hp).1]; simp
  have hm := meet_true h i6 hp
  have e : (s.list.map fun x => gapOf x p.2 r) = s.list.map fun x => (atR x p.2 s.rho).1 := List.map_congr_left fun x hx => by
    unfold gapOf
    rw [if_pos (true_at h (i6 x hx) hp).1, i1]
  rw [e] at hm
  unfold atC
  rw [if_neg hne, if_neg (by rw [ht]; simp), hf]
  exact hm
end Go.Proofs.Ytgidaifoiljgoaa
/- ClockSound: the sample of a probe, by conditions. -/
namespace Go.Proofs.Ytgidaifoiljgoaa
set_option linter.unusedSimpArgs false
set_option linter.unusedVariables false
open Go.RowKit Go.Sort
set_option maxRecDepth 100000
abbrev trR (t : (Int × Int) × Int × Int) : List D := [iD t.1.1, iD t.1.2, iD t.2.1, iD t.2.2]
theorem made_sat (l : List (Int × Int)) (hl : l.length ≤ 1000) (hT : ∀ p ∈ l, inT p) (t : (Int × Int) × Int × Int) : ∃ (x : Smp) (ok : Bool), Sat Try.prog 38 [.d (.sl 2 (l.map gR)), .d (.agg (trR t))] [] (.tup [sA x, bA ok]) [] ∧ (ok = true → TrueS l x) := by
  obtain ⟨⟨g, s⟩, ah, be⟩ := t
  have hm : (l.map gR).length = l.length := List.length_map _
  by_cases h1 : g < 0 ∨ s < 0 ∨ (l.length : Int) ≤ g ∨ (l.length : Int) ≤ s ∨ ah < 0 ∨ be < 0
  · refine ⟨⟨0, 0, 0, 0⟩, false, ?_, fun h => by cases h⟩
    refine sat_of_vc (T := tiOf Try.prog) (E := E0) Try.func38 rfl rfl hE0 hm0 rfl ?_
    conv => whnf
    repeat (any_goals (first
      | exact True.intro
      | (refine And.intro (fun _ => ?_) tf; conv => whnf)
      | (refine And.intro ft (fun _ => ?_); conv => whnf)
      | (refine And.intro (by kernel_rfl) ?_; conv => whnf)
      | (refine And.intro (by decide) ?_; conv => whnf)
      | (refine And.intro (fun _ => ?_) (fun h => absurd h (by decide)); conv => whnf)
      | (refine And.intro (fun h => absurd h (by decide)) (fun _ => ?_); conv => whnf)
      | (refine And.intro (fun _ => ?_) (fun _ => ?_) <;> conv => whnf)))
    all_goals try (exfalso; simp only [decide_eq_true_eq, decide_eq_false_iff_not, Bool.not_eq_true', Bool.not_eq_false', Bool.not_eq_true, Bool.not_eq_false, beq_iff_eq, bne_iff_ne, beq_eq_false_iff_ne, bne_eq_false_iff_eq, ne_eq, Decidable.not_not] at *; first | omega | contradiction | (simp_all; done) | (simp_all; omega))
    all_goals try (refine Or.inl ?_; conv => whnf)
    repeat (any_goals (first
      | exact True.intro
      | (refine And.intro (fun _ => ?_) tf; conv => whnf)
      | (refine And.intro ft (fun _ => ?_); conv => whnf)
      | (refine And.intro (by kernel_rfl) ?_; conv => whnf)
      | (refine And.intro (by decide) ?_; conv => whnf)
      | (refine And.intro (fun _ => ?_) (fun h => absurd h (by decide)); conv => whnf)
      | (refine And.intro (fun h => absurd h (by decide)) (fun _ => ?_); conv => whnf)
      | (refine And.intro (fun _ => ?_) (fun _ => ?_) <;> conv => whnf)))
    all_goals try (exfalso; simp only [decide_eq_true_eq, decide_eq_false_iff_not, Bool.not_eq_true', Bool.not_eq_false', Bool.not_eq_true, Bool.not_eq_false, beq_iff_eq, bne_iff_ne, beq_eq_false_iff_ne, bne_eq_false_iff_eq, ne_eq, Decidable.not_not] at *; first | omega | contradiction | (simp_all; done) | (simp_all; omega))
    all_goals refine ⟨[], ?_⟩
    repeat (any_goals (first | exact True.intro | exact rfl | with_reducible_and_instances rfl | exact (by kernel_rfl) | refine And.intro ?_ ?_))
    all_goals conv => whnf
  obtain ⟨i, rfl⟩ : ∃ i : Nat, g = i := ⟨g.toNat, by omega⟩
  obtain ⟨j, rfl⟩ : ∃ j : Nat, s = j := ⟨s.toNat, by omega⟩
  have hx : l[i]? = some (l[i]'(by omega)) := List.getElem?_eq_getElem _
  have hy : l[j]? = some (l[j]'(by omega)) := List.getElem?_eq_getElem _
  have ma := List.getElem_mem (show i < l.length by omega)
  have mb := List.getElem_mem (show j < l.length by omega)
  generalize l[i]'(by omega) = a at hx ma
  generalize l[j]'(by omega) = b at hy mb
  have ta := hT a ma
  have tb := hT b mb
  unfold inT at ta tb
  have w1 : IntKind.i64.wrap (4611686018427387903 - b.1) = 4611686018427387903 - b.1 := wi (by omega) (by omega)
  by_cases h2 : b.1 < a.1 ∨ a.1 < ah ∨ 4611686018427387903 - b.1 < be
  · refine ⟨⟨0, 0, 0, 0⟩, false, ?_, fun h => by cases h⟩
    refine sat_of_vc (T := tiOf Try.prog) (E := E0) Try.func38 rfl rfl hE0 hm0 rfl ?_
    conv => whnf
    repeat (any_goals (first
      | exact True.intro
      | (refine And.intro (fun _ => ?_) tf; conv => whnf)
      | (refine And.intro ft (fun _ => ?_); conv => whnf)
      | (refine And.intro (by kernel_rfl) ?_; conv => whnf)
      | (refine And.intro (by decide) ?_; conv => whnf)
      | (refine And.intro (fun _ => ?_) (fun h => absurd h (by decide)); conv => whnf)
      | (refine And.intro (fun h => absurd h (by decide)) (fun _ => ?_); conv => whnf)
      | (refine ⟨i, _, rfl, map_get hx, ?_⟩; conv => whnf)
      | (refine ⟨j, _, rfl, map_get hy, ?_⟩; conv => whnf)
      | (refine And.intro (fun _ => ?_) (fun _ => ?_) <;> conv => whnf)))
    all_goals try (exfalso; simp only [decide_eq_true_eq, decide_eq_false_iff_not, Bool.not_eq_true', Bool.not_eq_false', Bool.not_eq_true, Bool.not_eq_false, beq_iff_eq, bne_iff_ne, beq_eq_false_iff_ne, bne_eq_false_iff_eq, ne_eq, Decidable.not_not] at *; first | omega | contradiction | (simp_all; done) | (simp_all; omega))
    all_goals try (refine Or.inl ?_; conv => whnf)
    repeat (any_goals (first
      | exact True.intro
      | (refine And.intro (fun _ => ?_) tf; conv => whnf)
      | (refine And.intro ft (fun _ => ?_); conv => whnf)
      | (refine And.intro (by kernel_rfl) ?_; conv => whnf)
      | (refine And.intro (by decide) ?_; conv => whnf)
      | (refine And.intro (fun _ => ?_) (fun h => absurd h (by decide)); conv => whnf)
      | (refine And.intro (fun h => absurd h (by decide)) (fun _ => ?_); conv => whnf)
      | (refine ⟨i, _, rfl, map_get hx, ?_⟩; conv => whnf)
      | (refine ⟨j, _, rfl, map_get hy, ?_⟩; conv => whnf)
      | (refine And.intro (fun _ => ?_) (fun _ => ?_) <;> conv => whnf)))
    all_goals try (exfalso; simp only [decide_eq_true_eq, decide_eq_false_iff_not, Bool.not_eq_true', Bool.not_eq_false', Bool.not_eq_true, Bool.not_eq_false, beq_iff_eq, bne_iff_ne, beq_eq_false_iff_ne, bne_eq_false_iff_eq, ne_eq, Decidable.not_not] at *; first | omega | contradiction | (simp_all; done) | (simp_all; omega))
    all_goals try (refine Or.inl ?_; conv => whnf)
    repeat (any_goals (first
      | exact True.intro
      | (refine And.intro (fun _ => ?_) tf; conv => whnf)
      | (refine And.intro ft (fun _ => ?_); conv => whnf)
      | (refine And.intro (by kernel_rfl) ?_; conv => whnf)
      | (refine And.intro (by decide) ?_; conv => whnf)
      | (refine And.intro (fun _ => ?_) (fun h => absurd h (by decide)); conv => whnf)
      | (refine And.intro (fun h => absurd h (by decide)) (fun _ => ?_); conv => whnf)
      | (refine ⟨i, _, rfl, map_get hx, ?_⟩; conv => whnf)
      | (refine ⟨j, _, rfl, map_get hy, ?_⟩; conv => whnf)
      | (refine And.intro (fun _ => ?_) (fun _ => ?_) <;> conv => whnf)))
    all_goals try (exfalso; simp only [decide_eq_true_eq, decide_eq_false_iff_not, Bool.not_eq_true', Bool.not_eq_false', Bool.not_eq_true, Bool.not_eq_false, beq_iff_eq, bne_iff_ne, beq_eq_false_iff_ne, bne_eq_false_iff_eq, ne_eq, Decidable.not_not] at *; first | omega | contradiction | (simp_all; done) | (simp_all; omega))
    all_goals refine ⟨[], ?_⟩
    repeat (any_goals (first | exact True.intro | exact rfl | with_reducible_and_instances rfl | exact (by kernel_rfl) | refine And.intro ?_ ?_))
    all_goals conv => whnf
  · have w2 : IntKind.i64.wrap (a.1 - ah) = a.1 - ah := wi (by omega) (by omega)
    have w3 : IntKind.i64.wrap (b.1 + be) = b.1 + be := wi (by omega) (by omega)
    refine ⟨⟨a.1 - ah, a.2, b.2, b.1 + be⟩, true, ?_, fun _ => ⟨a, ma, b, mb, by omega, rfl, rfl, by show 0 ≤ a.1 - ah; omega, by show a.1 - ah ≤ a.1; omega, by show b.1 ≤ b.1 + be; omega, by show b.1 + be ≤ 4611686018427387903; omega⟩⟩
    refine sat_of_vc (T := tiOf Try.prog) (E := E0) Try.func38 rfl rfl hE0 hm0 rfl ?_
    conv => whnf
    repeat (any_goals (first
      | exact True.intro
      | (refine And.intro (fun _ => ?_) tf; conv => whnf)
      | (refine And.intro ft (fun _ => ?_); conv => whnf)
      | (refine And.intro (by kernel_rfl) ?_; conv => whnf)
      | (refine And.intro (by decide) ?_; conv => whnf)
      | (refine And.intro (fun _ => ?_) (fun h => absurd h (by decide)); conv => whnf)
      | (refine And.intro (fun h => absurd h (by decide)) (fun _ => ?_); conv => whnf)
      | (refine ⟨i, _, rfl, map_get hx, ?_⟩; conv => whnf)
      | (refine ⟨j, _, rfl, map_get hy, ?_⟩; conv => whnf)
      | (refine And.intro (fun _ => ?_) (fun _ => ?_) <;> conv => whnf)))
    all_goals try (exfalso; simp only [decide_eq_true_eq, decide_eq_false_iff_not, Bool.not_eq_true', Bool.not_eq_false', Bool.not_eq_true, Bool.not_eq_false, beq_iff_eq, bne_iff_ne, beq_eq_false_iff_ne, bne_eq_false_iff_eq, ne_eq, Decidable.not_not] at *; first | omega | contradiction | (simp_all; done) | (simp_all; omega))
    all_goals try (refine Or.inl ?_; conv => whnf)
    repeat (any_goals (first
      | exact True.intro
      | (refine And.intro (fun _ => ?_) tf; conv => whnf)
      | (refine And.intro ft (fun _ => ?_); conv => whnf)
      | (refine And.intro (by kernel_rfl) ?_; conv => whnf)
      | (refine And.intro (by decide) ?_; conv => whnf)
      | (refine And.intro (fun _ => ?_) (fun h => absurd h (by decide)); conv => whnf)
      | (refine And.intro (fun h => absurd h (by decide)) (fun _ => ?_); conv => whnf)
      | (refine ⟨i, _, rfl, map_get hx, ?_⟩; conv => whnf)
      | (refine ⟨j, _, rfl, map_get hy, ?_⟩; conv => whnf)
      | (refine And.intro (fun _ => ?_) (fun _ => ?_) <;> conv => whnf)))
    all_goals try (exfalso; simp only [decide_eq_true_eq, decide_eq_false_iff_not, Bool.not_eq_true', Bool.not_eq_false', Bool.not_eq_true, Bool.not_eq_false, beq_iff_eq, bne_iff_ne, beq_eq_false_iff_ne, bne_eq_false_iff_eq, ne_eq, Decidable.not_not] at *; first | omega | contradiction | (simp_all; done) | (simp_all; omega))
    all_goals try (refine Or.inl ?_; conv => whnf)
    repeat (any_goals (first
      | exact True.intro
      | (refine And.intro (fun _ => ?_) tf; conv => whnf)
      | (refine And.intro ft (fun _ => ?_); conv => whnf)
      | (refine And.intro (by kernel_rfl) ?_; conv => whnf)
      | (refine And.intro (by decide) ?_; conv => whnf)
      | (refine And.intro (fun _ => ?_) (fun h => absurd h (by decide)); conv => whnf)
      | (refine And.intro (fun h => absurd h (by decide)) (fun _ => ?_); conv => whnf)
      | (refine ⟨i, _, rfl, map_get hx, ?_⟩; conv => whnf)
      | (refine ⟨j, _, rfl, map_get hy, ?_⟩; conv => whnf)
      | (refine And.intro (fun _ => ?_) (fun _ => ?_) <;> conv => whnf)))
    all_goals try (exfalso; simp only [decide_eq_true_eq, decide_eq_false_iff_not, Bool.not_eq_true', Bool.not_eq_false', Bool.not_eq_true, Bool.not_eq_false, beq_iff_eq, bne_iff_ne, beq_eq_false_iff_ne, bne_eq_false_iff_eq, ne_eq, Decidable.not_not] at *; first | omega | contradiction | (simp_all; done) | (simp_all; omega))
    all_goals refine ⟨[], ?_⟩
    repeat (any_goals (first | exact True.intro | exact rfl | with_reducible_and_instances rfl | exact (by kernel_rfl) | refine And.intro ?_ ?_))
    all_goals conv => whnf
    show AV.d (D.agg [iD (IntKind.i64.wrap (a.1 - ah)), iD a.2, iD b.2, iD (IntKind.i64.wrap (b.1 + be))]) = _
    rw [w2, w3]
end Go.Proofs.Ytgidaifoiljgoaa
/- ClockSound, by conditions. -/
namespace Go.Proofs.Ytgidaifoiljgoaa
set_option linter.unusedSimpArgs false
set_option linter.unusedVariables false
open Go.RowKit Go.Sort
set_option maxRecDepth 100000
theorem gapHasC_sat (g : Int × Int) (x : Int) : Sat Try.prog 39 [gA g, iA x] [] (bA (decide (g.1 ≤ x ∧ x ≤ g.2))) [] := by
  refine .of_calls (by repeat constructor) (by repeat constructor) fun w => ?_
  exact gapHas_any g.1 g.2 x w
set_option maxHeartbeats 1000000 in
theorem sound_sat (r : Int) (l : List (Int × Int)) (ts : List ((Int × Int) × Int × Int)) : Sat Try.prog 11 [iA r, .d (.sl 2 (l.map gR)), .d (.sl 4 (ts.map trR))] [] (bA true) [] := by
  have hm : (l.map gR).length = l.length := List.length_map _
  have hmt : (ts.map trR).length = ts.length := List.length_map _
  by_cases h30 : 30 < l.length ∨ 30 < ts.length
  · refine sat_of_vc (T := tiOf Try.prog) (E := E0) Try.func11 rfl rfl hE0 hm0 rfl ?_
    conv => whnf
    repeat (any_goals (first
      | exact True.intro
      | (refine And.intro (fun _ => ?_) tf; conv => whnf)
      | (refine And.intro ft (fun _ => ?_); conv => whnf)
      | (refine And.intro (by kernel_rfl) ?_; conv => whnf)
      | (refine And.intro (by decide) ?_; conv => whnf)
      | (refine And.intro (fun _ => ?_) (fun h => absurd h (by decide)); conv => whnf)
      | (refine And.intro (fun h => absurd h (by decide)) (fun _ => ?_); conv => whnf)
      | (refine And.intro (fun _ => ?_) (fun _ => ?_) <;> conv => whnf)
      | (refine ⟨_, _, alive_sat.pu rfl rfl, ?_⟩; conv => whnf)))
    all_goals try (exfalso; simp only [decide_eq_true_eq, decide_eq_false_iff_not, Bool.not_eq_true', Bool.not_eq_false', Bool.not_eq_true, Bool.not_eq_false, beq_iff_eq, bne_iff_ne, beq_eq_false_iff_ne, bne_eq_false_iff_eq, ne_eq, Decidable.not_not] at *; first | omega | contradiction | (simp_all; done) | (simp_all; omega))
    all_goals try (refine Or.inl ?_; conv => whnf)
    repeat (any_goals (first
      | exact True.intro
      | (refine And.intro (fun _ => ?_) tf; conv => whnf)
      | (refine And.intro ft (fun _ => ?_); conv => whnf)
      | (refine And.intro (by kernel_rfl) ?_; conv => whnf)
      | (refine And.intro (by decide) ?_; conv => whnf)
      | (refine And.intro (fun _ => ?_) (fun h => absurd h (by decide)); conv => whnf)
      | (refine And.intro (fun h => absurd h (by decide)) (fun _ => ?_); conv => whnf)
      | (refine And.intro (fun _ => ?_) (fun _ => ?_) <;> conv => whnf)
      | (refine ⟨_, _, alive_sat.pu rfl rfl, ?_⟩; conv => whnf)))
    all_goals try (exfalso; simp only [decide_eq_true_eq, decide_eq_false_iff_not, Bool.not_eq_true', Bool.not_eq_false', Bool.not_eq_true, Bool.not_eq_false, beq_iff_eq, bne_iff_ne, beq_eq_false_iff_ne, bne_eq_false_iff_eq, ne_eq, Decidable.not_not] at *; first | omega | contradiction | (simp_all; done) | (simp_all; omega))
    all_goals try (refine Or.inl ?_; conv => whnf)
    repeat (any_goals (first
      | exact True.intro
      | (refine And.intro (fun _ => ?_) tf; conv => whnf)
      | (refine And.intro ft (fun _ => ?_); conv => whnf)
      | (refine And.intro (by kernel_rfl) ?_; conv => whnf)
      | (refine And.intro (by decide) ?_; conv => whnf)
      | (refine And.intro (fun _ => ?_) (fun h => absurd h (by decide)); conv => whnf)
      | (refine And.intro (fun h => absurd h (by decide)) (fun _ => ?_); conv => whnf)
      | (refine And.intro (fun _ => ?_) (fun _ => ?_) <;> conv => whnf)
      | (refine ⟨_, _, alive_sat.pu rfl rfl, ?_⟩; conv => whnf)))
    all_goals try (exfalso; simp only [decide_eq_true_eq, decide_eq_false_iff_not, Bool.not_eq_true', Bool.not_eq_false', Bool.not_eq_true, Bool.not_eq_false, beq_iff_eq, bne_iff_ne, beq_eq_false_iff_ne, bne_eq_false_iff_eq, ne_eq, Decidable.not_not] at *; first | omega | contradiction | (simp_all; done) | (simp_all; omega))
    all_goals refine ⟨[], ?_⟩
    repeat (any_goals (first | exact True.intro | exact rfl | with_reducible_and_instances rfl | exact (by kernel_rfl) | refine And.intro ?_ ?_))
    all_goals conv => whnf
  by_cases hh : HonOK r l
  case neg =>
    have hn := honest_no r l (by omega) hh
    refine sat_of_vc (T := tiOf Try.prog) (E := E0) Try.func11 rfl rfl hE0 hm0 rfl ?_
    conv => whnf
    repeat (any_goals (first
      | exact True.intro
      | (refine And.intro (fun _ => ?_) tf; conv => whnf)
      | (refine And.intro ft (fun _ => ?_); conv => whnf)
      | (refine And.intro (by kernel_rfl) ?_; conv => whnf)
      | (refine And.intro (by decide) ?_; conv => whnf)
      | (refine And.intro (fun _ => ?_) (fun h => absurd h (by decide)); conv => whnf)
      | (refine And.intro (fun h => absurd h (by decide)) (fun _ => ?_); conv => whnf)
      | (refine And.intro (fun _ => ?_) (fun _ => ?_) <;> conv => whnf)
      | (refine ⟨_, _, alive_sat.pu rfl rfl, ?_⟩; conv => whnf)
      | (refine ⟨_, _, hn.pu rfl rfl, ?_⟩; conv => whnf)))
    all_goals try (exfalso; simp only [decide_eq_true_eq, decide_eq_false_iff_not, Bool.not_eq_true', Bool.not_eq_false', Bool.not_eq_true, Bool.not_eq_false, beq_iff_eq, bne_iff_ne, beq_eq_false_iff_ne, bne_eq_false_iff_eq, ne_eq, Decidable.not_not] at *; first | omega | contradiction | (simp_all; done) | (simp_all; omega))
    all_goals try (refine Or.inl ?_; conv => whnf)
    repeat (any_goals (first
      | exact True.intro
      | (refine And.intro (fun _ => ?_) tf; conv => whnf)
      | (refine And.intro ft (fun _ => ?_); conv => whnf)
      | (refine And.intro (by kernel_rfl) ?_; conv => whnf)
      | (refine And.intro (by decide) ?_; conv => whnf)
      | (refine And.intro (fun _ => ?_) (fun h => absurd h (by decide)); conv => whnf)
      | (refine And.intro (fun h => absurd h (by decide)) (fun _ => ?_); conv => whnf)
      | (refine And.intro (fun _ => ?_) (fun _ => ?_) <;> conv => whnf)
      | (refine ⟨_, _, alive_sat.pu rfl rfl, ?_⟩; conv => whnf)
      | (refine ⟨_, _, hn.pu rfl rfl, ?_⟩; conv => whnf)))
    all_goals try (exfalso; simp only [decide_eq_true_eq, decide_eq_false_iff_not, Bool.not_eq_true', Bool.not_eq_false', Bool.not_eq_true, Bool.not_eq_false, beq_iff_eq, bne_iff_ne, beq_eq_false_iff_ne, bne_eq_false_iff_eq, ne_eq, Decidable.not_not] at *; first | omega | contradiction | (simp_all; done) | (simp_all; omega))
    all_goals try (refine Or.inl ?_; conv => whnf)
    repeat (any_goals (first
      | exact True.intro
      | (refine And.intro (fun _ => ?_) tf; conv => whnf)
      | (refine And.intro ft (fun _ => ?_); conv => whnf)
      | (refine And.intro (by kernel_rfl) ?_; conv => whnf)
      | (refine And.intro (by decide) ?_; conv => whnf)
      | (refine And.intro (fun _ => ?_) (fun h => absurd h (by decide)); conv => whnf)
      | (refine And.intro (fun h => absurd h (by decide)) (fun _ => ?_); conv => whnf)
      | (refine And.intro (fun _ => ?_) (fun _ => ?_) <;> conv => whnf)
      | (refine ⟨_, _, alive_sat.pu rfl rfl, ?_⟩; conv => whnf)
      | (refine ⟨_, _, hn.pu rfl rfl, ?_⟩; conv => whnf)))
    all_goals try (exfalso; simp only [decide_eq_true_eq, decide_eq_false_iff_not, Bool.not_eq_true', Bool.not_eq_false', Bool.not_eq_true, Bool.not_eq_false, beq_iff_eq, bne_iff_ne, beq_eq_false_iff_ne, bne_eq_false_iff_eq, ne_eq, Decidable.not_not] at *; first | omega | contradiction | (simp_all; done) | (simp_all; omega))
    all_goals refine ⟨[], ?_⟩
    repeat (any_goals (first | exact True.intro | exact rfl | with_reducible_and_instances rfl | exact (by kernel_rfl) | refine And.intro ?_ ?_))
    all_goals conv => whnf
  have hy := honest_yes r l (by omega) hh
  have n1 := new_ok r 2 hh.1 (by omega) (by omega)
  refine sat_of_vc (T := tiOf Try.prog) (E := E0) Try.func11 rfl rfl hE0 hm0 rfl ?_
  conv => whnf
  repeat (any_goals (first
    | exact True.intro
    | (refine And.intro (fun _ => ?_) tf; conv => whnf)
    | (refine And.intro ft (fun _ => ?_); conv => whnf)
    | (refine And.intro (by kernel_rfl) ?_; conv => whnf)
    | (refine And.intro (by decide) ?_; conv => whnf)
    | (refine And.intro (fun _ => ?_) (fun h => absurd h (by decide)); conv => whnf)
    | (refine And.intro (fun h => absurd h (by decide)) (fun _ => ?_); conv => whnf)
    | (refine And.intro (fun _ => ?_) (fun _ => ?_) <;> conv => whnf)
    | (refine ⟨_, _, alive_sat.pu rfl rfl, ?_⟩; conv => whnf)
    | (refine ⟨_, _, hy.pu rfl rfl, ?_⟩; conv => whnf)
    | (refine ⟨_, _, n1.nw rfl, ?_⟩; conv => whnf)
    | (refine ⟨_, _, eqP (by kernel_rfl), ?_⟩; conv => whnf)))
  all_goals try (exfalso; simp only [decide_eq_true_eq, decide_eq_false_iff_not, Bool.not_eq_true', Bool.not_eq_false', Bool.not_eq_true, Bool.not_eq_false, beq_iff_eq, bne_iff_ne, beq_eq_false_iff_ne, bne_eq_false_iff_eq, ne_eq, Decidable.not_not] at *; first | omega | contradiction | (simp_all; done) | (simp_all; omega))
  all_goals try (refine Or.inl ?_; conv => whnf)
  repeat (any_goals (first
    | exact True.intro
    | (refine And.intro (fun _ => ?_) tf; conv => whnf)
    | (refine And.intro ft (fun _ => ?_); conv => whnf)
    | (refine And.intro (by kernel_rfl) ?_; conv => whnf)
    | (refine And.intro (by decide) ?_; conv => whnf)
    | (refine And.intro (fun _ => ?_) (fun h => absurd h (by decide)); conv => whnf)
    | (refine And.intro (fun h => absurd h (by decide)) (fun _ => ?_); conv => whnf)
    | (refine And.intro (fun _ => ?_) (fun _ => ?_) <;> conv => whnf)
    | (refine ⟨_, _, alive_sat.pu rfl rfl, ?_⟩; conv => whnf)
    | (refine ⟨_, _, hy.pu rfl rfl, ?_⟩; conv => whnf)
    | (refine ⟨_, _, n1.nw rfl, ?_⟩; conv => whnf)
    | (refine ⟨_, _, eqP (by kernel_rfl), ?_⟩; conv => whnf)))
  all_goals try (exfalso; simp only [decide_eq_true_eq, decide_eq_false_iff_not, Bool.not_eq_true', Bool.not_eq_false', Bool.not_eq_true, Bool.not_eq_false, beq_iff_eq, bne_iff_ne, beq_eq_false_iff_ne, bne_eq_false_iff_eq, ne_eq, Decidable.not_not] at *; first | omega | contradiction | (simp_all; done) | (simp_all; omega))
  all_goals try (refine Or.inl ?_; conv => whnf)
  repeat (any_goals (first
    | exact True.intro
    | (refine And.intro (fun _ => ?_) tf; conv => whnf)
    | (refine And.intro ft (fun _ => ?_); conv => whnf)
    | (refine And.intro (by kernel_rfl) ?_; conv => whnf)
    | (refine And.intro (by decide) ?_; conv => whnf)
    | (refine And.intro (fun _ => ?_) (fun h => absurd h (by decide)); conv => whnf)
    | (refine And.intro (fun h => absurd h (by decide)) (fun _ => ?_); conv => whnf)
    | (refine And.intro (fun _ => ?_) (fun _ => ?_) <;> conv => whnf)
    | (refine ⟨_, _, alive_sat.pu rfl rfl, ?_⟩; conv => whnf)
    | (refine ⟨_, _, hy.pu rfl rfl, ?_⟩; conv => whnf)
    | (refine ⟨_, _, n1.nw rfl, ?_⟩; conv => whnf)
    | (refine ⟨_, _, eqP (by kernel_rfl), ?_⟩; conv => whnf)))
  all_goals try (exfalso; simp only [decide_eq_true_eq, decide_eq_false_iff_not, Bool.not_eq_true', Bool.not_eq_false', Bool.not_eq_true, Bool.not_eq_false, beq_iff_eq, bne_iff_ne, beq_eq_false_iff_ne, bne_eq_false_iff_eq, ne_eq, Decidable.not_not] at *; first | omega | contradiction | (simp_all; done) | (simp_all; omega))
  all_goals try (refine Or.inl ?_; conv => whnf)
  repeat (any_goals (first
    | exact True.intro
    | (refine And.intro (fun _ => ?_) tf; conv => whnf)
    | (refine And.intro ft (fun _ => ?_); conv => whnf)
    | (refine And.intro (by kernel_rfl) ?_; conv => whnf)
    | (refine And.intro (by decide) ?_; conv => whnf)
    | (refine And.intro (fun _ => ?_) (fun h => absurd h (by decide)); conv => whnf)
    | (refine And.intro (fun h => absurd h (by decide)) (fun _ => ?_); conv => whnf)
    | (refine And.intro (fun _ => ?_) (fun _ => ?_) <;> conv => whnf)
    | (refine ⟨_, _, alive_sat.pu rfl rfl, ?_⟩; conv => whnf)
    | (refine ⟨_, _, hy.pu rfl rfl, ?_⟩; conv => whnf)
    | (refine ⟨_, _, n1.nw rfl, ?_⟩; conv => whnf)
    | (refine ⟨_, _, eqP (by kernel_rfl), ?_⟩; conv => whnf)))
  all_goals try (exfalso; simp only [decide_eq_true_eq, decide_eq_false_iff_not, Bool.not_eq_true', Bool.not_eq_false', Bool.not_eq_true, Bool.not_eq_false, beq_iff_eq, bne_iff_ne, beq_eq_false_iff_ne, bne_eq_false_iff_eq, ne_eq, Decidable.not_not] at *; first | omega | contradiction | (simp_all; done) | (simp_all; omega))
  all_goals try (refine Or.inl ?_; conv => whnf)
  repeat (any_goals (first
    | exact True.intro
    | (refine And.intro (fun _ => ?_) tf; conv => whnf)
    | (refine And.intro ft (fun _ => ?_); conv => whnf)
    | (refine And.intro (by kernel_rfl) ?_; conv => whnf)
    | (refine And.intro (by decide) ?_; conv => whnf)
    | (refine And.intro (fun _ => ?_) (fun h => absurd h (by decide)); conv => whnf)
    | (refine And.intro (fun h => absurd h (by decide)) (fun _ => ?_); conv => whnf)
    | (refine And.intro (fun _ => ?_) (fun _ => ?_) <;> conv => whnf)))
  all_goals try (exfalso; simp only [decide_eq_true_eq, decide_eq_false_iff_not, Bool.not_eq_true', Bool.not_eq_false', Bool.not_eq_true, Bool.not_eq_false, beq_iff_eq, bne_iff_ne, beq_eq_false_iff_ne, bne_eq_false_iff_eq, ne_eq, Decidable.not_not] at *; first | omega | contradiction | (simp_all; done) | (simp_all; omega))
  refine ⟨Nat × Nat × CSt, fun y => y.1 ≤ ts.length ∧ y.2.1 ≤ y.1 ∧ SInv l r y.2.2 y.2.1, fun y => ([(10, iA y.1), (9, iA y.2.1), (7, .ptr 0 0), (0, iA r), (1, .d (.sl 2 (l.map gR))), (2, .d (.sl 4 (ts.map trR)))], cH y.2.2), fun y => ts.length - y.1, ⟨(0, 0, ⟨r, 2, false, 0, []⟩), ⟨Nat.zero_le _, Nat.zero_le _, ⟨rfl, rfl, rfl, rfl, Nat.zero_le _, fun x hx => by simp at hx⟩⟩, ?_⟩, ?_⟩
  · all_goals refine ⟨[], ?_⟩
    repeat (any_goals (first | exact True.intro | exact rfl | with_reducible_and_instances rfl | exact (by kernel_rfl) | refine And.intro ?_ ?_))
    all_goals conv => whnf
  rintro ⟨i, many, s⟩ ⟨hi, hmi, I⟩
  have hi : i ≤ ts.length := hi
  have hmi : many ≤ i := hmi
  have I : SInv l r s many := I
  conv => whnf
  by_cases hlt : i < ts.length
  case neg =>
    repeat (any_goals (first
      | exact True.intro
      | (refine Or.inl ?_; conv => whnf)
      | (refine And.intro (fun _ => ?_) tf; conv => whnf)
      | (refine And.intro ft (fun _ => ?_); conv => whnf)
      | (refine And.intro (by kernel_rfl) ?_; conv => whnf)
      | (refine And.intro (by decide) ?_; conv => whnf)
      | (refine And.intro (fun _ => ?_) (fun h => absurd h (by decide)); conv => whnf)
      | (refine And.intro (fun h => absurd h (by decide)) (fun _ => ?_); conv => whnf)
      | (refine And.intro (fun _ => ?_) (fun _ => ?_) <;> conv => whnf)))
    all_goals try (exfalso; simp only [decide_eq_true_eq, decide_eq_false_iff_not, Bool.not_eq_true', Bool.not_eq_false', Bool.not_eq_true, Bool.not_eq_false, beq_iff_eq, bne_iff_ne, beq_eq_false_iff_ne, bne_eq_false_iff_eq, ne_eq, Decidable.not_not] at *; first | omega | contradiction | (simp_all; done) | (simp_all; omega))
    all_goals refine ⟨[], ?_⟩
    repeat (any_goals (first | exact True.intro | exact rfl | with_reducible_and_instances rfl | exact (by kernel_rfl) | refine And.intro ?_ ?_))
    all_goals conv => whnf
  have hx : ts[i]? = some ts[i] := List.getElem?_eq_getElem hlt
  generalize ts[i] = t at hx
  obtain ⟨x, ok, md, hxt⟩ := made_sat l (by omega) hh.2.1.1 t
  cases ok with
  | false =>
    repeat (any_goals (first
      | exact True.intro
      | (refine Or.inl ?_; conv => whnf)
      | (refine And.intro (fun _ => ?_) tf; conv => whnf)
      | (refine And.intro ft (fun _ => ?_); conv => whnf)
      | (refine And.intro (by kernel_rfl) ?_; conv => whnf)
      | (refine And.intro (by decide) ?_; conv => whnf)
      | (refine And.intro (fun _ => ?_) (fun h => absurd h (by decide)); conv => whnf)
      | (refine And.intro (fun h => absurd h (by decide)) (fun _ => ?_); conv => whnf)
      | (refine ⟨i, _, rfl, map_get hx, ?_⟩; conv => whnf)
      | (refine And.intro (fun _ => ?_) (fun _ => ?_) <;> conv => whnf)
      | (refine ⟨_, _, md.pu rfl rfl, ?_⟩; conv => whnf)))
    all_goals try (exfalso; simp only [decide_eq_true_eq, decide_eq_false_iff_not, Bool.not_eq_true', Bool.not_eq_false', Bool.not_eq_true, Bool.not_eq_false, beq_iff_eq, bne_iff_ne, beq_eq_false_iff_ne, bne_eq_false_iff_eq, ne_eq, Decidable.not_not] at *; first | omega | contradiction | (simp_all; done) | (simp_all; omega))
    refine ⟨(i + 1, many, s), ⟨hlt, by show many ≤ i + 1; omega, I⟩, show ts.length - (i + 1) < ts.length - i by omega, ?_⟩
    all_goals refine ⟨[], ?_⟩
    repeat (any_goals (first | exact True.intro | exact rfl | with_reducible_and_instances rfl | exact (by kernel_rfl) | refine And.intro ?_ ?_))
    all_goals conv => whnf
    exact wk1 (show i ≤ _ by omega)
  | true =>
    have hxt := hxt rfl
    have hok := true_okS hh hxt
    have rs := right_sat x
    rw [hok] at rs
    obtain ⟨e0, I', hne⟩ := add_true hh (by omega) I hxt
    have ad := add_sat s x I.n8 (by have := I.streak; omega)
    generalize addC s x = q at e0 I' hne ad
    obtain ⟨s', e⟩ := q
    have e0 : e = 0 := e0
    subst e0
    have I' : SInv l r s' (many + 1) := I'
    have hne : s'.list ≠ [] := hne
    have he := held_sat s'
    rw [I'.held] at he
    have st := streak_sat s'
    rw [I'.streak] at st
    have w1 : IntKind.i64.wrap ((many : Int) + 1) = ((many + 1 : Nat) : Int) := by rw [wi (by omega) (by omega)]; rfl
    have HI := hide I'
    have HN := hide hne
    have HX := hide hxt
    clear hxt I I' hne hok
    repeat (any_goals (first
      | exact True.intro
      | (refine And.intro (fun _ => ?_) tf; conv => whnf)
      | (refine And.intro ft (fun _ => ?_); conv => whnf)
      | (refine And.intro (by kernel_rfl) ?_; conv => whnf)
      | (refine And.intro (by decide) ?_; conv => whnf)
      | (refine And.intro (fun _ => ?_) (fun h => absurd h (by decide)); conv => whnf)
      | (refine And.intro (fun h => absurd h (by decide)) (fun _ => ?_); conv => whnf)
      | (refine ⟨i, _, rfl, map_get hx, ?_⟩; conv => whnf)
      | (refine And.intro (fun _ => ?_) (fun _ => ?_) <;> conv => whnf)
      | (refine ⟨_, _, md.pu rfl rfl, ?_⟩; conv => whnf)
      | (refine ⟨_, _, rs.pu rfl rfl, ?_⟩; conv => whnf)
      | (refine ⟨_, _, ad.at2 0 1 rfl rfl rfl rfl rfl, ?_⟩; conv => whnf)
      | (refine ⟨_, _, he.at2 0 3 rfl rfl rfl rfl rfl, ?_⟩; conv => whnf)
      | (refine ⟨_, _, st.at2 0 3 rfl rfl rfl rfl rfl, ?_⟩; conv => whnf)))
    all_goals try (exfalso; simp only [decide_eq_true_eq, decide_eq_false_iff_not, Bool.not_eq_true', Bool.not_eq_false', Bool.not_eq_true, Bool.not_eq_false, beq_iff_eq, bne_iff_ne, beq_eq_false_iff_ne, bne_eq_false_iff_eq, ne_eq, Decidable.not_not] at *; first | omega | contradiction | (simp_all; done) | (simp_all; omega))
    all_goals try (refine Or.inl ?_; conv => whnf)
    repeat (any_goals (first
      | exact True.intro
      | (refine And.intro (fun _ => ?_) tf; conv => whnf)
      | (refine And.intro ft (fun _ => ?_); conv => whnf)
      | (refine And.intro (by kernel_rfl) ?_; conv => whnf)
      | (refine And.intro (by decide) ?_; conv => whnf)
      | (refine And.intro (fun _ => ?_) (fun h => absurd h (by decide)); conv => whnf)
      | (refine And.intro (fun h => absurd h (by decide)) (fun _ => ?_); conv => whnf)
      | (refine ⟨i, _, rfl, map_get hx, ?_⟩; conv => whnf)
      | (refine And.intro (fun _ => ?_) (fun _ => ?_) <;> conv => whnf)
      | (refine ⟨_, _, md.pu rfl rfl, ?_⟩; conv => whnf)
      | (refine ⟨_, _, rs.pu rfl rfl, ?_⟩; conv => whnf)
      | (refine ⟨_, _, ad.at2 0 1 rfl rfl rfl rfl rfl, ?_⟩; conv => whnf)
      | (refine ⟨_, _, he.at2 0 3 rfl rfl rfl rfl rfl, ?_⟩; conv => whnf)
      | (refine ⟨_, _, st.at2 0 3 rfl rfl rfl rfl rfl, ?_⟩; conv => whnf)))
    all_goals try (exfalso; simp only [decide_eq_true_eq, decide_eq_false_iff_not, Bool.not_eq_true', Bool.not_eq_false', Bool.not_eq_true, Bool.not_eq_false, beq_iff_eq, bne_iff_ne, beq_eq_false_iff_ne, bne_eq_false_iff_eq, ne_eq, Decidable.not_not] at *; first | omega | contradiction | (simp_all; done) | (simp_all; omega))
    all_goals try (refine Or.inl ?_; conv => whnf)
    repeat (any_goals (first
      | exact True.intro
      | (refine And.intro (fun _ => ?_) tf; conv => whnf)
      | (refine And.intro ft (fun _ => ?_); conv => whnf)
      | (refine And.intro (by kernel_rfl) ?_; conv => whnf)
      | (refine And.intro (by decide) ?_; conv => whnf)
      | (refine And.intro (fun _ => ?_) (fun h => absurd h (by decide)); conv => whnf)
      | (refine And.intro (fun h => absurd h (by decide)) (fun _ => ?_); conv => whnf)
      | (refine ⟨i, _, rfl, map_get hx, ?_⟩; conv => whnf)
      | (refine And.intro (fun _ => ?_) (fun _ => ?_) <;> conv => whnf)
      | (refine ⟨_, _, md.pu rfl rfl, ?_⟩; conv => whnf)
      | (refine ⟨_, _, rs.pu rfl rfl, ?_⟩; conv => whnf)
      | (refine ⟨_, _, ad.at2 0 1 rfl rfl rfl rfl rfl, ?_⟩; conv => whnf)
      | (refine ⟨_, _, he.at2 0 3 rfl rfl rfl rfl rfl, ?_⟩; conv => whnf)
      | (refine ⟨_, _, st.at2 0 3 rfl rfl rfl rfl rfl, ?_⟩; conv => whnf)))
    all_goals try (exfalso; simp only [decide_eq_true_eq, decide_eq_false_iff_not, Bool.not_eq_true', Bool.not_eq_false', Bool.not_eq_true, Bool.not_eq_false, beq_iff_eq, bne_iff_ne, beq_eq_false_iff_ne, bne_eq_false_iff_eq, ne_eq, Decidable.not_not] at *; first | omega | contradiction | (simp_all; done) | (simp_all; omega))
    all_goals try (refine Or.inl ?_; conv => whnf)
    repeat (any_goals (first
      | exact True.intro
      | (refine And.intro (fun _ => ?_) tf; conv => whnf)
      | (refine And.intro ft (fun _ => ?_); conv => whnf)
      | (refine And.intro (by kernel_rfl) ?_; conv => whnf)
      | (refine And.intro (by decide) ?_; conv => whnf)
      | (refine And.intro (fun _ => ?_) (fun h => absurd h (by decide)); conv => whnf)
      | (refine And.intro (fun h => absurd h (by decide)) (fun _ => ?_); conv => whnf)
      | (refine ⟨i, _, rfl, map_get hx, ?_⟩; conv => whnf)
      | (refine And.intro (fun _ => ?_) (fun _ => ?_) <;> conv => whnf)
      | (refine ⟨_, _, md.pu rfl rfl, ?_⟩; conv => whnf)
      | (refine ⟨_, _, rs.pu rfl rfl, ?_⟩; conv => whnf)
      | (refine ⟨_, _, ad.at2 0 1 rfl rfl rfl rfl rfl, ?_⟩; conv => whnf)
      | (refine ⟨_, _, he.at2 0 3 rfl rfl rfl rfl rfl, ?_⟩; conv => whnf)
      | (refine ⟨_, _, st.at2 0 3 rfl rfl rfl rfl rfl, ?_⟩; conv => whnf)))
    all_goals try (refine Or.inl ?_; conv => whnf)
    repeat (any_goals (first
      | exact True.intro
      | (refine And.intro (fun _ => ?_) tf; conv => whnf)
      | (refine And.intro ft (fun _ => ?_); conv => whnf)
      | (refine And.intro (by kernel_rfl) ?_; conv => whnf)
      | (refine And.intro (by decide) ?_; conv => whnf)
      | (refine And.intro (fun _ => ?_) (fun h => absurd h (by decide)); conv => whnf)
      | (refine And.intro (fun h => absurd h (by decide)) (fun _ => ?_); conv => whnf)
      | (refine ⟨i, _, rfl, map_get hx, ?_⟩; conv => whnf)
      | (refine And.intro (fun _ => ?_) (fun _ => ?_) <;> conv => whnf)
      | (refine ⟨_, _, md.pu rfl rfl, ?_⟩; conv => whnf)
      | (refine ⟨_, _, rs.pu rfl rfl, ?_⟩; conv => whnf)
      | (refine ⟨_, _, ad.at2 0 1 rfl rfl rfl rfl rfl, ?_⟩; conv => whnf)
      | (refine ⟨_, _, he.at2 0 3 rfl rfl rfl rfl rfl, ?_⟩; conv => whnf)
      | (refine ⟨_, _, st.at2 0 3 rfl rfl rfl rfl rfl, ?_⟩; conv => whnf)))
    · exfalso
      have h : (((many + 1 : Nat) : Int) != IntKind.i64.wrap ((many : Int) + 1)) = true := by assumption
      rw [w1] at h
      simp at h
    · refine ⟨Nat, fun k => k ≤ l.length, fun k => ([(13, iA k), (10, iA i), (9, iA (many + 1 : Nat)), (7, .ptr 0 0), (0, iA r), (1, .d (.sl 2 (l.map gR))), (2, .d (.sl 4 (ts.map trR)))], cH s'), fun k => l.length - k, ⟨0, Nat.zero_le _, ?_⟩, ?_⟩
      · all_goals refine ⟨[(1, 3)], ?_⟩
        repeat (any_goals (first | exact True.intro | exact rfl | with_reducible_and_instances rfl | exact (by kernel_rfl) | refine And.intro ?_ ?_))
        all_goals conv => whnf
        exact congrArg iA w1
      intro k hk
      conv => whnf
      by_cases hlk : k < l.length
      · have hxk : l[k]? = some l[k] := List.getElem?_eq_getElem hlk
        have hpm := List.getElem_mem hlk
        generalize l[k] = p at hxk hpm
        obtain ⟨a0, a1, a2⟩ := at_true hh HI.out HN.out hpm
        have at1 := clkAt_sat s' p.2 HI.out.n8
        generalize atC s' p.2 = g at a0 a1 a2 at1
        obtain ⟨g, e⟩ := g
        have a0 : e = 0 := a0
        subst a0
        have gh := gapHasC_sat g p.1
        rw [show decide (g.1 ≤ p.1 ∧ p.1 ≤ g.2) = true from decide_eq_true ⟨a1, a2⟩] at gh
        clear a0 a1 a2
        repeat (any_goals (first
          | exact True.intro
          | (refine Or.inl ?_; conv => whnf)
          | (refine And.intro (fun _ => ?_) tf; conv => whnf)
          | (refine And.intro ft (fun _ => ?_); conv => whnf)
          | (refine And.intro (by kernel_rfl) ?_; conv => whnf)
          | (refine And.intro (by decide) ?_; conv => whnf)
          | (refine And.intro (fun _ => ?_) (fun h => absurd h (by decide)); conv => whnf)
          | (refine And.intro (fun h => absurd h (by decide)) (fun _ => ?_); conv => whnf)
          | (refine ⟨k, _, rfl, map_get hxk, ?_⟩; conv => whnf)
          | (refine And.intro (fun _ => ?_) (fun _ => ?_) <;> conv => whnf)
          | (refine ⟨_, _, at1.at2 0 1 rfl rfl rfl rfl rfl, ?_⟩; conv => whnf)
          | (refine ⟨_, _, gh.pu rfl rfl, ?_⟩; conv => whnf)))
        · refine ⟨k + 1, hlk, show l.length - (k + 1) < l.length - k by omega, ?_⟩
          all_goals refine ⟨[], ?_⟩
          repeat (any_goals (first | exact True.intro | exact rfl | with_reducible_and_instances rfl | exact (by kernel_rfl) | refine And.intro ?_ ?_))
          all_goals conv => whnf
          exact wk1 (by omega)
        · exfalso
          have h : ((((g, 0) : (Int × Int) × Nat).2 : Int) != 0) = true := by assumption
          simp at h
        · exact absurd ‹decide ((k : Int) < ((l.map gR).length : Int)) = false› (by rw [hm, decide_eq_true (by omega)]; decide)
      · have hke : k = l.length := by omega
        subst hke
        repeat (any_goals (first
          | exact True.intro
          | (refine Or.inl ?_; conv => whnf)
          | (refine And.intro (fun _ => ?_) tf; conv => whnf)
          | (refine And.intro ft (fun _ => ?_); conv => whnf)
          | (refine And.intro (by kernel_rfl) ?_; conv => whnf)
          | (refine And.intro (by decide) ?_; conv => whnf)
          | (refine And.intro (fun _ => ?_) (fun h => absurd h (by decide)); conv => whnf)
          | (refine And.intro (fun h => absurd h (by decide)) (fun _ => ?_); conv => whnf)
          | (refine And.intro (fun _ => ?_) (fun _ => ?_) <;> conv => whnf)))
        · exact absurd ‹decide ((l.length : Int) < ((l.map gR).length : Int)) = true› (by rw [hm, decide_eq_false (by omega)]; decide)
        · refine ⟨(i + 1, many + 1, s'), ⟨hlt, by show many + 1 ≤ i + 1; omega, HI.out⟩, show ts.length - (i + 1) < ts.length - i by omega, ?_⟩
          all_goals refine ⟨[], ?_⟩
          repeat (any_goals (first | exact True.intro | exact rfl | with_reducible_and_instances rfl | exact (by kernel_rfl) | refine And.intro ?_ ?_))
          all_goals conv => whnf
          exact wk1 (show i ≤ _ by omega)
    · exfalso
      have h : ((((s', 0) : CSt × Nat).2 : Int) != 0) = true := by assumption
      simp at h
theorem ty_trips {x : D} (h : TyV Try.prog 71 x) : ∃ l : List ((Int × Int) × Int × Int), x = .sl 4 (l.map trR) := by
  obtain ⟨rows, rfl, h2, h3⟩ := ty_slice h Try.underlying71
  obtain ⟨l, rfl, hl⟩ := rows_map (f := trR) (p := fun _ => True) fun r hr => by
    obtain ⟨zs, h1, rfl, h3⟩ := ty_ints (n := 4) (h2 r hr) (by kernel_rfl)
    match zs, h1, h3 with
    | [a, b, c, d], _, _ => exact ⟨((a, b), c, d), rfl, trivial⟩
  refine ⟨l, ?_⟩
  rw [show Try.prog.cellsOf 75 = 4 by kernel_rfl]
theorem sound_law (H : Type) (enc : TypeId × Value → H) : LawWalk H enc Try.prog 11 Try.f11 :=
  lawWalk_of_sat (by kernel_rfl) fun args h => by
    obtain ⟨r, _, rfl, h1, h⟩ := h
    obtain ⟨x, _, rfl, h2, h⟩ := h
    obtain ⟨t, _, rfl, h3, h⟩ := h
    obtain rfl := h
    obtain ⟨r, rfl, _⟩ := ty_i64 h1 Try.underlying2
    obtain ⟨l, rfl, _⟩ := ty_pts h2
    obtain ⟨ts, rfl⟩ := ty_trips h3
    exact sound_sat r l ts
end Go.Proofs.Ytgidaifoiljgoaa
/- Two closed facts on the program that every law's statement asks. -/
namespace Go.Proofs.Ytgidaifoiljgoaa
set_option linter.unusedSimpArgs false
set_option linter.unusedVariables false
open Go.RowKit
theorem own : ownKnob Try.prog.godebug = none := by kernel_rfl
theorem laidOut : laidOutB Try.prog = true := by kernel_rfl
end Go.Proofs.Ytgidaifoiljgoaa
