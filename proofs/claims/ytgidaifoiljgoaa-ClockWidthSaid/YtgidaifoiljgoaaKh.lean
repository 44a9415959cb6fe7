/- ClockTrusts, by conditions. -/
import Derived.Test.YtgidaifoiljgoaaKg
namespace Go.Proofs.Ytgidaifoiljgoaa
set_option linter.unusedSimpArgs false
set_option linter.unusedVariables false
open Go.RowKit
set_option maxRecDepth 100000
/-- What a clock always is. -/
structure CInv (s : CSt) (rho least : Int) (k : Nat) : Prop where
  r : s.rho = rho
  l : s.least = least
  s0 : 0 ≤ s.streak
  s1 : s.streak ≤ k
  n8 : s.list.length ≤ 8
  ns : (s.list.length : Int) ≤ s.streak + 1
theorem keep_le (l : List Smp) (x : Smp) (h : l.length ≤ 8) : (keepC (l ++ [x])).length ≤ 8 ∧ (keepC (l ++ [x])).length ≤ l.length + 1 := by unfold keepC; split <;> simp at * <;> omega
/-- What Add does, each way. -/
theorem addC_ways (s : CSt) (x : Smp) {rho least : Int} {k : Nat} (I : CInv s rho least k) (hk : k ≤ 1000000) :
    (okS x = false ∧ addC s x = (s, 10)) ∨
    (okS x = true ∧ (addC s x).2 = 0 ∧ (addC s x).1.streak = s.streak + 1 ∧ (addC s x).1.held = (s.held && decide (s.streak + 1 < least)) ∧ CInv (addC s x).1 rho least (k + 1)) ∨
    (okS x = true ∧ (addC s x).2 = 21 ∧ (addC s x).1.streak = 0 ∧ (addC s x).1.held = true ∧ CInv (addC s x).1 rho least (k + 1)) := by
  obtain ⟨r, l, s0, s1, n8, ns⟩ := I
  cases hx : okS x with
  | false => exact .inl ⟨rfl, by unfold addC; rw [if_pos hx]⟩
  | true =>
    right
    have h0 : ¬ okS x = false := by simp [hx]
    have hk2 := keep_le s.list x n8
    by_cases ha : agreeB ((keepC (s.list ++ [x])).map fun o => gapOf o x.sent s.rho) = true
    · left
      have hr : addC s x = (⟨s.rho, s.least, if s.least ≤ s.streak + 1 then false else s.held, s.streak + 1, keepC (s.list ++ [x])⟩, 0) := by
        unfold addC; rw [if_neg h0, if_pos ha, if_pos (by omega)]
      rw [hr]
      refine ⟨rfl, rfl, rfl, ?_, ⟨r, l, by show 0 ≤ s.streak + 1; omega, by show s.streak + 1 ≤ _; omega, hk2.1, by show ((keepC (s.list ++ [x])).length : Int) ≤ s.streak + 1 + 1; omega⟩⟩
      show (if s.least ≤ s.streak + 1 then false else s.held) = _
      rw [l]
      split
      · rw [decide_eq_false (by omega)]; simp
      · rw [decide_eq_true (by omega)]; simp
    · right
      have hr : addC s x = (⟨s.rho, s.least, true, 0, if okG (gapOf x x.sent s.rho) = true then [x] else []⟩, 21) := by
        unfold addC; rw [if_neg h0, if_neg ha]
      rw [hr]
      refine ⟨rfl, rfl, rfl, rfl, ⟨r, l, by show (0 : Int) ≤ 0; omega, by show (0 : Int) ≤ _; omega, ?_, ?_⟩⟩
      · show (if okG (gapOf x x.sent s.rho) = true then [x] else []).length ≤ 8
        split <;> simp
      · show ((if okG (gapOf x x.sent s.rho) = true then [x] else []).length : Int) ≤ 0 + 1
        split <;> simp
theorem trusts_sat (rho trust : Int) (l : List Smp) : Sat Try.prog 5 [iA rho, iA trust, .d (.sl 4 (l.map sR))] [] (bA true) [] := by
  by_cases h60 : 60 < l.length
  · refine sat_of_vc (T := tiOf Try.prog) (E := E0) Try.func5 rfl rfl hE0 hm0 rfl ?_
    conv => whnf
    repeat (any_goals (first
      | exact True.intro
      | (refine Or.inl ?_; conv => whnf)
      | (refine And.intro (fun _ => ?_) tf; conv => whnf)
      | (refine And.intro ft (fun _ => ?_); conv => whnf)
      | (refine And.intro (by kernel_rfl) ?_; conv => whnf)
      | (refine And.intro (by decide) ?_; conv => whnf)
      | (refine And.intro (fun _ => ?_) (fun h => absurd h (by decide)); conv => whnf)
      | (refine And.intro (fun h => absurd h (by decide)) (fun _ => ?_); conv => whnf)
      | (refine And.intro (fun _ => ?_) (fun _ => ?_) <;> conv => whnf)
      | (refine ⟨_, _, alive_sat.pu rfl rfl, ?_⟩; conv => whnf)))
    all_goals try (exfalso; simp only [decide_eq_true_eq, decide_eq_false_iff_not, Bool.not_eq_true', Bool.not_eq_false', Bool.not_eq_true, Bool.not_eq_false, beq_iff_eq, bne_iff_ne, beq_eq_false_iff_ne, bne_eq_false_iff_eq, ne_eq, Decidable.not_not] at *; first | omega | contradiction | (simp_all; done) | (simp_all; omega))
    all_goals refine ⟨[], ?_⟩
    repeat (any_goals (first | exact True.intro | exact rfl | with_reducible_and_instances rfl | exact (by kernel_rfl) | refine And.intro ?_ ?_))
    all_goals conv => whnf
  by_cases hok : okRate rho = true ∧ 0 ≤ trust ∧ trust ≤ 100
  · have n1 := new_ok rho trust hok.1 hok.2.1 hok.2.2
    refine sat_of_vc (T := tiOf Try.prog) (E := E0) Try.func5 rfl rfl hE0 hm0 rfl ?_
    conv => whnf
    repeat (any_goals (first
      | exact True.intro
      | (refine And.intro (fun _ => ?_) tf; conv => whnf)
      | (refine And.intro ft (fun _ => ?_); conv => whnf)
      | (refine And.intro (by kernel_rfl) ?_; conv => whnf)
      | (refine And.intro (by decide) ?_; conv => whnf)
      | (refine And.intro (fun _ => ?_) (fun h => absurd h (by decide)); conv => whnf)
      | (refine And.intro (fun h => absurd h (by decide)) (fun _ => ?_); conv => whnf)
      | (refine And.intro (fun _ => ?_) (fun _ => ?_) <;> conv => whnf)))
    all_goals try (refine Or.inl ?_; conv => whnf)
    repeat (any_goals (first
      | exact True.intro
      | (refine And.intro (fun _ => ?_) tf; conv => whnf)
      | (refine And.intro ft (fun _ => ?_); conv => whnf)
      | (refine And.intro (by kernel_rfl) ?_; conv => whnf)
      | (refine And.intro (by decide) ?_; conv => whnf)
      | (refine And.intro (fun _ => ?_) (fun h => absurd h (by decide)); conv => whnf)
      | (refine And.intro (fun h => absurd h (by decide)) (fun _ => ?_); conv => whnf)
      | (refine And.intro (fun _ => ?_) (fun _ => ?_) <;> conv => whnf)
      | (refine ⟨_, _, alive_sat.pu rfl rfl, ?_⟩; conv => whnf)))
    all_goals try (refine Or.inl ?_; conv => whnf)
    repeat (any_goals (first
      | exact True.intro
      | (refine And.intro (fun _ => ?_) tf; conv => whnf)
      | (refine And.intro ft (fun _ => ?_); conv => whnf)
      | (refine And.intro (by kernel_rfl) ?_; conv => whnf)
      | (refine And.intro (by decide) ?_; conv => whnf)
      | (refine And.intro (fun _ => ?_) (fun h => absurd h (by decide)); conv => whnf)
      | (refine And.intro (fun h => absurd h (by decide)) (fun _ => ?_); conv => whnf)
      | (refine And.intro (fun _ => ?_) (fun _ => ?_) <;> conv => whnf)))
    all_goals try (exfalso; simp only [decide_eq_true_eq, decide_eq_false_iff_not, Bool.not_eq_true', Bool.not_eq_false', Bool.not_eq_true, Bool.not_eq_false, beq_iff_eq, bne_iff_ne, beq_eq_false_iff_ne, bne_eq_false_iff_eq, ne_eq, Decidable.not_not] at *; first | omega | contradiction | (simp_all; done) | (simp_all; omega))
    all_goals try (refine Or.inl ?_; conv => whnf)
    repeat (any_goals (first
      | exact True.intro
      | (refine And.intro (fun _ => ?_) tf; conv => whnf)
      | (refine And.intro ft (fun _ => ?_); conv => whnf)
      | (refine And.intro (by kernel_rfl) ?_; conv => whnf)
      | (refine And.intro (by decide) ?_; conv => whnf)
      | (refine And.intro (fun _ => ?_) (fun h => absurd h (by decide)); conv => whnf)
      | (refine And.intro (fun h => absurd h (by decide)) (fun _ => ?_); conv => whnf)
      | (refine And.intro (fun _ => ?_) (fun _ => ?_) <;> conv => whnf)
      | (refine ⟨_, _, n1.nw rfl, ?_⟩; conv => whnf)))
    all_goals try (refine Or.inl ?_; conv => whnf)
    repeat (any_goals (first
      | exact True.intro
      | (refine And.intro (fun _ => ?_) tf; conv => whnf)
      | (refine And.intro ft (fun _ => ?_); conv => whnf)
      | (refine And.intro (by kernel_rfl) ?_; conv => whnf)
      | (refine And.intro (by decide) ?_; conv => whnf)
      | (refine And.intro (fun _ => ?_) (fun h => absurd h (by decide)); conv => whnf)
      | (refine And.intro (fun h => absurd h (by decide)) (fun _ => ?_); conv => whnf)
      | (refine And.intro (fun _ => ?_) (fun _ => ?_) <;> conv => whnf)
      | (refine ⟨_, _, eqP (by kernel_rfl), ?_⟩; conv => whnf)))
    all_goals try (exfalso; simp only [decide_eq_true_eq, decide_eq_false_iff_not, Bool.not_eq_true', Bool.not_eq_false', Bool.not_eq_true, Bool.not_eq_false, beq_iff_eq, bne_iff_ne, beq_eq_false_iff_ne, bne_eq_false_iff_eq, ne_eq, Decidable.not_not] at *; first | omega | contradiction | (simp_all; done) | (simp_all; omega))
    all_goals try (refine Or.inl ?_; conv => whnf)
    repeat (any_goals (first
      | exact True.intro
      | (refine And.intro (fun _ => ?_) tf; conv => whnf)
      | (refine And.intro ft (fun _ => ?_); conv => whnf)
      | (refine And.intro (by kernel_rfl) ?_; conv => whnf)
      | (refine And.intro (by decide) ?_; conv => whnf)
      | (refine And.intro (fun _ => ?_) (fun h => absurd h (by decide)); conv => whnf)
      | (refine And.intro (fun h => absurd h (by decide)) (fun _ => ?_); conv => whnf)
      | (refine And.intro (fun _ => ?_) (fun _ => ?_) <;> conv => whnf)))
    refine ⟨Nat × CSt, fun y => y.1 ≤ l.length ∧ CInv y.2 rho trust y.1, fun y => ([(11, iA y.1), (9, iA y.2.streak), (10, bA y.2.held), (7, .ptr 0 0), (1, iA trust), (2, .d (.sl 4 (l.map sR)))], cH y.2), fun y => l.length - y.1, ⟨(0, ⟨rho, trust, false, 0, []⟩), ⟨Nat.zero_le _, rfl, rfl, Int.le_refl _, Int.le_refl _, Nat.zero_le _, show (0 : Int) ≤ 0 + 1 by omega⟩, ?_⟩, ?_⟩
    · all_goals refine ⟨[], ?_⟩
      repeat (any_goals (first | exact True.intro | exact rfl | with_reducible_and_instances rfl | exact (by kernel_rfl) | refine And.intro ?_ ?_))
      all_goals conv => whnf
    rintro ⟨k, s⟩ ⟨hk, I⟩
    have hk : k ≤ l.length := hk
    have I : CInv s rho trust k := I
    conv => whnf
    by_cases hlt : k < l.length
    · have hx : l[k]? = some l[k] := List.getElem?_eq_getElem hlt
      generalize l[k] = x at hx
      have hI := I
      obtain ⟨r1, r2, s0, s1, n8, ns⟩ := I
      have d := add_sat s x n8 (by omega)
      have hw := addC_ways s x hI (by omega)
      generalize hq : addC s x = q at d hw
      obtain ⟨s', e⟩ := q
      have d : Sat Try.prog 15 [.ptr 0 0, sA x] (cH s) (iA e) (cH2 s') := d
      have hI' : CInv s' rho trust (k + 1) := by
        rcases hw with ⟨_, h⟩ | ⟨_, _, _, _, h⟩ | ⟨_, _, _, _, h⟩
        · injection h with h _; subst h; exact ⟨r1, r2, s0, by omega, n8, ns⟩
        · exact h
        · exact h
      have hw : (okS x = false ∧ e = 10 ∧ s'.streak = s.streak ∧ s'.held = s.held) ∨ (okS x = true ∧ e = 0 ∧ s'.streak = s.streak + 1 ∧ s'.held = (s.held && decide (s.streak + 1 < trust))) ∨ (okS x = true ∧ e = 21 ∧ s'.streak = 0 ∧ s'.held = true) := by
        rcases hw with ⟨h1, h⟩ | ⟨h1, h2, h3, h4, _⟩ | ⟨h1, h2, h3, h4, _⟩
        · injection h with h h'; subst h h'; exact .inl ⟨h1, rfl, rfl, rfl⟩
        · exact .inr (.inl ⟨h1, h2, h3, h4⟩)
        · exact .inr (.inr ⟨h1, h2, h3, h4⟩)
      have h8 := hI'.n8
      have hn := hI'.ns
      have hs0 := hI'.s0
      have hs1 := hI'.s1
      have hw1 : IntKind.i64.wrap (s.streak + 1) = s.streak + 1 := wi (by omega) (by omega)
      have hw2 : IntKind.i64.wrap (s.streak + 1 + 1) = s.streak + 2 := by rw [wi (by omega) (by omega)]; omega
      have hw3 : IntKind.i64.wrap (0 + 1) = 1 := by decide
      rcases hw with ⟨g1, rfl, g3, g4⟩ | ⟨g1, rfl, g3, g4⟩ | ⟨g1, rfl, g3, g4⟩
      · repeat (any_goals (first
          | exact True.intro
          | (refine Or.inl ?_; conv => whnf)
          | (refine And.intro (fun _ => ?_) tf; conv => whnf)
          | (refine And.intro ft (fun _ => ?_); conv => whnf)
          | (refine And.intro (by kernel_rfl) ?_; conv => whnf)
          | (refine And.intro (by decide) ?_; conv => whnf)
          | (refine And.intro (fun _ => ?_) (fun h => absurd h (by decide)); conv => whnf)
          | (refine And.intro (fun h => absurd h (by decide)) (fun _ => ?_); conv => whnf)
          | (refine And.intro (fun _ => ?_) (fun h => absurd h (by simpa using hlt)); conv => whnf)
          | (refine ⟨k, _, rfl, map_get hx, ?_⟩; conv => whnf)
          | (refine And.intro (fun _ => ?_) (fun _ => ?_) <;> conv => whnf)
          | (refine ⟨_, _, d.at2 0 1 rfl rfl rfl rfl rfl, ?_⟩; conv => whnf)
          | (refine ⟨_, _, (right_sat x).pu rfl rfl, ?_⟩; conv => whnf)
          | (refine ⟨_, _, (streak_sat s').at2 0 2 rfl rfl rfl rfl rfl, ?_⟩; conv => whnf)
          | (refine ⟨_, _, (held_sat s').at2 0 2 rfl rfl rfl rfl rfl, ?_⟩; conv => whnf)
          | (refine ⟨_, _, neB (by kernel_rfl), ?_⟩; conv => whnf)
          | (refine ⟨_, _, (samples_sat s' h8).at2 0 2 rfl rfl rfl rfl rfl, ?_⟩; conv => whnf)))
        all_goals try (exfalso; simp only [decide_eq_true_eq, decide_eq_false_iff_not, Bool.not_eq_true', Bool.not_eq_false', Bool.not_eq_true, Bool.not_eq_false, beq_iff_eq, bne_iff_ne, beq_eq_false_iff_ne, bne_eq_false_iff_eq, ne_eq, Decidable.not_not] at *; first | omega | contradiction | (simp_all; done) | (simp_all; omega))
        all_goals try (exfalso; simp only [hw1, hw2, hw3, g3, g4, List.length_map, decide_eq_true_eq, decide_eq_false_iff_not, bne_iff_ne, ne_eq, gt_iff_lt] at *; omega)
        all_goals try (exfalso; simp_all; done)
        all_goals refine ⟨(k + 1, s'), ⟨hlt, hI'⟩, show l.length - (k + 1) < l.length - k by omega, ?_⟩
        all_goals refine ⟨[(1, 2)], ?_⟩
        repeat (any_goals (first | exact True.intro | exact rfl | with_reducible_and_instances rfl | exact (by kernel_rfl) | refine And.intro ?_ ?_))
        all_goals conv => whnf
        all_goals first | exact wk1 (by omega) | (simp_all; done)
      · repeat (any_goals (first
          | exact True.intro
          | (refine Or.inl ?_; conv => whnf)
          | (refine And.intro (fun _ => ?_) tf; conv => whnf)
          | (refine And.intro ft (fun _ => ?_); conv => whnf)
          | (refine And.intro (by kernel_rfl) ?_; conv => whnf)
          | (refine And.intro (by decide) ?_; conv => whnf)
          | (refine And.intro (fun _ => ?_) (fun h => absurd h (by decide)); conv => whnf)
          | (refine And.intro (fun h => absurd h (by decide)) (fun _ => ?_); conv => whnf)
          | (refine And.intro (fun _ => ?_) (fun h => absurd h (by simpa using hlt)); conv => whnf)
          | (refine ⟨k, _, rfl, map_get hx, ?_⟩; conv => whnf)
          | (refine And.intro (fun _ => ?_) (fun _ => ?_) <;> conv => whnf)
          | (refine ⟨_, _, d.at2 0 1 rfl rfl rfl rfl rfl, ?_⟩; conv => whnf)
          | (refine ⟨_, _, (right_sat x).pu rfl rfl, ?_⟩; conv => whnf)
          | (refine ⟨_, _, (streak_sat s').at2 0 2 rfl rfl rfl rfl rfl, ?_⟩; conv => whnf)
          | (refine ⟨_, _, (held_sat s').at2 0 2 rfl rfl rfl rfl rfl, ?_⟩; conv => whnf)
          | (refine ⟨_, _, neB (by kernel_rfl), ?_⟩; conv => whnf)
          | (refine ⟨_, _, (samples_sat s' h8).at2 0 2 rfl rfl rfl rfl rfl, ?_⟩; conv => whnf)))
        all_goals try (exfalso; simp only [decide_eq_true_eq, decide_eq_false_iff_not, Bool.not_eq_true', Bool.not_eq_false', Bool.not_eq_true, Bool.not_eq_false, beq_iff_eq, bne_iff_ne, beq_eq_false_iff_ne, bne_eq_false_iff_eq, ne_eq, Decidable.not_not] at *; first | omega | contradiction | (simp_all; done) | (simp_all; omega))
        all_goals try (exfalso; simp only [hw1, hw2, hw3, g3, g4, List.length_map, decide_eq_true_eq, decide_eq_false_iff_not, bne_iff_ne, ne_eq, gt_iff_lt] at *; omega)
        all_goals try (exfalso; simp_all; done)
        all_goals refine ⟨(k + 1, s'), ⟨hlt, hI'⟩, show l.length - (k + 1) < l.length - k by omega, ?_⟩
        all_goals refine ⟨[(1, 2)], ?_⟩
        repeat (any_goals (first | exact True.intro | exact rfl | with_reducible_and_instances rfl | exact (by kernel_rfl) | refine And.intro ?_ ?_))
        all_goals conv => whnf
        all_goals first | exact wk1 (by omega) | (simp_all; done)
      · repeat (any_goals (first
          | exact True.intro
          | (refine Or.inl ?_; conv => whnf)
          | (refine And.intro (fun _ => ?_) tf; conv => whnf)
          | (refine And.intro ft (fun _ => ?_); conv => whnf)
          | (refine And.intro (by kernel_rfl) ?_; conv => whnf)
          | (refine And.intro (by decide) ?_; conv => whnf)
          | (refine And.intro (fun _ => ?_) (fun h => absurd h (by decide)); conv => whnf)
          | (refine And.intro (fun h => absurd h (by decide)) (fun _ => ?_); conv => whnf)
          | (refine And.intro (fun _ => ?_) (fun h => absurd h (by simpa using hlt)); conv => whnf)
          | (refine ⟨k, _, rfl, map_get hx, ?_⟩; conv => whnf)
          | (refine And.intro (fun _ => ?_) (fun _ => ?_) <;> conv => whnf)
          | (refine ⟨_, _, d.at2 0 1 rfl rfl rfl rfl rfl, ?_⟩; conv => whnf)
          | (refine ⟨_, _, (right_sat x).pu rfl rfl, ?_⟩; conv => whnf)
          | (refine ⟨_, _, (streak_sat s').at2 0 2 rfl rfl rfl rfl rfl, ?_⟩; conv => whnf)
          | (refine ⟨_, _, (held_sat s').at2 0 2 rfl rfl rfl rfl rfl, ?_⟩; conv => whnf)
          | (refine ⟨_, _, neB (by kernel_rfl), ?_⟩; conv => whnf)
          | (refine ⟨_, _, (samples_sat s' h8).at2 0 2 rfl rfl rfl rfl rfl, ?_⟩; conv => whnf)))
        all_goals try (exfalso; simp only [decide_eq_true_eq, decide_eq_false_iff_not, Bool.not_eq_true', Bool.not_eq_false', Bool.not_eq_true, Bool.not_eq_false, beq_iff_eq, bne_iff_ne, beq_eq_false_iff_ne, bne_eq_false_iff_eq, ne_eq, Decidable.not_not] at *; first | omega | contradiction | (simp_all; done) | (simp_all; omega))
        all_goals try (exfalso; simp only [hw1, hw2, hw3, g3, g4, List.length_map, decide_eq_true_eq, decide_eq_false_iff_not, bne_iff_ne, ne_eq, gt_iff_lt] at *; omega)
        all_goals try (exfalso; simp_all; done)
        all_goals refine ⟨(k + 1, s'), ⟨hlt, hI'⟩, show l.length - (k + 1) < l.length - k by omega, ?_⟩
        all_goals refine ⟨[(1, 2)], ?_⟩
        repeat (any_goals (first | exact True.intro | exact rfl | with_reducible_and_instances rfl | exact (by kernel_rfl) | refine And.intro ?_ ?_))
        all_goals conv => whnf
        all_goals first | exact wk1 (by omega) | (simp_all; done)
    · repeat (any_goals (first
        | exact True.intro
        | (refine Or.inl ?_; conv => whnf)
        | (refine And.intro (fun _ => ?_) tf; conv => whnf)
        | (refine And.intro ft (fun _ => ?_); conv => whnf)
        | (refine And.intro (by kernel_rfl) ?_; conv => whnf)
        | (refine And.intro (by decide) ?_; conv => whnf)
        | (refine And.intro (fun _ => ?_) (fun h => absurd h (by decide)); conv => whnf)
        | (refine And.intro (fun h => absurd h (by decide)) (fun _ => ?_); conv => whnf)
        | (refine And.intro (fun h => absurd h (by simpa using hlt)) (fun _ => ?_); conv => whnf)
        | (refine And.intro (fun _ => ?_) (fun _ => ?_) <;> conv => whnf)))
      all_goals try (exfalso; simp only [decide_eq_true_eq, decide_eq_false_iff_not, Bool.not_eq_true', Bool.not_eq_false', Bool.not_eq_true, Bool.not_eq_false, beq_iff_eq, bne_iff_ne, beq_eq_false_iff_ne, bne_eq_false_iff_eq, ne_eq, Decidable.not_not] at *; first | omega | contradiction | (simp_all; done) | (simp_all; omega))
      all_goals refine ⟨[], ?_⟩
      repeat (any_goals (first | exact True.intro | exact rfl | with_reducible_and_instances rfl | exact (by kernel_rfl) | refine And.intro ?_ ?_))
      all_goals conv => whnf
  · have n1 := new_err rho trust (by simp at hok; rcases h : okRate rho with _ | _ <;> simp_all; omega)
    refine sat_of_vc (T := tiOf Try.prog) (E := E0) Try.func5 rfl rfl hE0 hm0 rfl ?_
    conv => whnf
    repeat (any_goals (first
      | exact True.intro
      | (refine Or.inl ?_; conv => whnf)
      | (refine And.intro (fun _ => ?_) tf; conv => whnf)
      | (refine And.intro ft (fun _ => ?_); conv => whnf)
      | (refine And.intro (by kernel_rfl) ?_; conv => whnf)
      | (refine And.intro (by decide) ?_; conv => whnf)
      | (refine And.intro (fun _ => ?_) (fun h => absurd h (by decide)); conv => whnf)
      | (refine And.intro (fun h => absurd h (by decide)) (fun _ => ?_); conv => whnf)
      | (refine And.intro (fun _ => ?_) (fun _ => ?_) <;> conv => whnf)
      | (refine ⟨_, _, alive_sat.pu rfl rfl, ?_⟩; conv => whnf)
      | (refine ⟨_, _, n1.pu rfl rfl, ?_⟩; conv => whnf)
      | (refine ⟨_, _, eqN (by kernel_rfl), ?_⟩; conv => whnf)))
    all_goals try (exfalso; simp only [decide_eq_true_eq, decide_eq_false_iff_not, Bool.not_eq_true', Bool.not_eq_false', Bool.not_eq_true, Bool.not_eq_false, beq_iff_eq, bne_iff_ne, beq_eq_false_iff_ne, bne_eq_false_iff_eq, ne_eq, Decidable.not_not] at *; first | omega | contradiction | (simp_all; done) | (simp_all; omega))
    all_goals refine ⟨[], ?_⟩
    repeat (any_goals (first | exact True.intro | exact rfl | with_reducible_and_instances rfl | exact (by kernel_rfl) | refine And.intro ?_ ?_))
    all_goals conv => whnf
theorem trusts_law (H : Type) (enc : TypeId × Value → H) : LawWalk H enc Try.prog 5 Try.f5 :=
  lawWalk_of_sat (by kernel_rfl) fun args h => by
    obtain ⟨a, _, rfl, h1, h⟩ := h
    obtain ⟨b, _, rfl, h2, h⟩ := h
    obtain ⟨x, _, rfl, h3, h⟩ := h
    obtain rfl := h
    obtain ⟨a, rfl, _⟩ := ty_i64 h1 Try.underlying2
    obtain ⟨b, rfl, _⟩ := ty_i64 h2 Try.underlying3
    obtain ⟨l, rfl, _⟩ := ty_smps h3
    exact trusts_sat a b l
end Go.Proofs.Ytgidaifoiljgoaa
