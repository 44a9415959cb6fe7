/- Parts Rs, Laid of the proof, put together. -/
import Derived.Test.YtgidaifoiljgoaaM10
import Derived.Test.YtgidaifoiljgoaaChecked
import Derived.Test.YtgidaifoiljgoaaRows
/- ClockCalls, by conditions. -/
namespace Go.Proofs.Ytgidaifoiljgoaa
set_option linter.unusedSimpArgs false
set_option linter.unusedVariables false
open Go.RowKit
set_option maxRecDepth 100000
theorem of_sat (s : Smp) : Sat Try.prog 17 [sA s] [] (sA s) [] := by
  refine sat_of_vc (T := tiOf Try.prog) (E := E0) Try.func17 rfl rfl hE0 hm0 rfl ?_
  conv => whnf
  repeat (any_goals (first
    | exact True.intro
    | (refine Or.inl ?_; conv => whnf)
    | (refine And.intro (fun _ => ?_) tf; conv => whnf)
    | (refine And.intro ft (fun _ => ?_); conv => whnf)
    | (refine And.intro (by kernel_rfl) ?_; conv => whnf)
    | (refine And.intro (by decide) ?_; conv => whnf)
    | (refine And.intro (fun _ => ?_) (fun h => absurd h (by decide)); conv => whnf)
    | (refine And.intro (fun h => absurd h (by decide)) (fun _ => ?_); conv => whnf)
    | (refine And.intro (fun _ => ?_) (fun _ => ?_) <;> conv => whnf)))
  all_goals refine ⟨[], ?_⟩
  repeat (any_goals (first | exact True.intro | exact rfl | with_reducible_and_instances rfl | exact (by kernel_rfl) | refine And.intro ?_ ?_))
  all_goals conv => whnf
theorem same_sat (g h : Int × Int) (e f : Int) : Sat Try.prog 22 [gA g, iA e, gA h, iA f] [] (bA ((e == f && g.1 == h.1) && g.2 == h.2)) [] := by
  refine sat_of_vc (T := tiOf Try.prog) (E := E0) Try.func22 rfl rfl hE0 hm0 rfl ?_
  conv => whnf
  repeat (any_goals (first
    | exact True.intro
    | (refine Or.inl ?_; conv => whnf)
    | (refine And.intro (fun _ => ?_) tf; conv => whnf)
    | (refine And.intro ft (fun _ => ?_); conv => whnf)
    | (refine And.intro (by kernel_rfl) ?_; conv => whnf)
    | (refine And.intro (by decide) ?_; conv => whnf)
    | (refine And.intro (fun _ => ?_) (fun h => absurd h (by decide)); conv => whnf)
    | (refine And.intro (fun h => absurd h (by decide)) (fun _ => ?_); conv => whnf)
    | (refine And.intro (fun _ => ?_) (fun _ => ?_) <;> conv => whnf)))
  · rw [show (e == f) = true by assumption, show (g.1 == h.1) = true by assumption]
    all_goals refine ⟨[], ?_⟩
    repeat (any_goals (first | exact True.intro | exact rfl | with_reducible_and_instances rfl | exact (by kernel_rfl) | refine And.intro ?_ ?_))
    all_goals conv => whnf
  · rw [show (e == f) = true by assumption, show (g.1 == h.1) = false by assumption]
    all_goals refine ⟨[], ?_⟩
    repeat (any_goals (first | exact True.intro | exact rfl | with_reducible_and_instances rfl | exact (by kernel_rfl) | refine And.intro ?_ ?_))
    all_goals conv => whnf
  · rw [show (e == f) = false by assumption]
    all_goals refine ⟨[], ?_⟩
    repeat (any_goals (first | exact True.intro | exact rfl | with_reducible_and_instances rfl | exact (by kernel_rfl) | refine And.intro ?_ ?_))
    all_goals conv => whnf
theorem agreeL_sat (s : CSt) (hn : s.list.length ≤ 8) : Sat Try.prog 18 [.ptr 0 0, .ptr 2 0] [cR s, .sl 4 (s.list.map sR), rO s] (bA true) [cR s, .sl 4 (s.list.map sR), rO s] := by
  have hm : (s.list.map sR).length = s.list.length := List.length_map _
  refine sat_of_vc (T := tiOf Try.prog) (E := E0) Try.func18 rfl rfl hE0 hm0 rfl ?_
  conv => whnf
  repeat (any_goals (first
    | exact True.intro
    | (refine Or.inl ?_; conv => whnf)
    | (refine And.intro (fun _ => ?_) tf; conv => whnf)
    | (refine And.intro ft (fun _ => ?_); conv => whnf)
    | (refine And.intro (by kernel_rfl) ?_; conv => whnf)
    | (refine And.intro (by decide) ?_; conv => whnf)
    | (refine And.intro (fun _ => ?_) (fun h => absurd h (by decide)); conv => whnf)
    | (refine And.intro (fun h => absurd h (by decide)) (fun _ => ?_); conv => whnf)
    | (refine And.intro (fun _ => ?_) (fun _ => ?_) <;> conv => whnf)
    | (refine ⟨_, _, (samples_sat s hn).at2 0 1 rfl rfl rfl rfl rfl, ?_⟩; conv => whnf)
    | (refine ⟨_, _, (streak_sat s).at2 0 1 rfl rfl rfl rfl rfl, ?_⟩; conv => whnf)
    | (refine ⟨_, _, (held_sat s).at2 0 1 rfl rfl rfl rfl rfl, ?_⟩; conv => whnf)
    | (refine ⟨_, _, neB (by kernel_rfl), ?_⟩; conv => whnf)))
  all_goals try (exfalso; simp only [decide_eq_true_eq, decide_eq_false_iff_not, Bool.not_eq_true', Bool.not_eq_false', Bool.not_eq_true, Bool.not_eq_false, beq_iff_eq, bne_iff_ne, beq_eq_false_iff_ne, bne_eq_false_iff_eq, ne_eq, Decidable.not_not] at *; first | omega | contradiction | (simp_all; done) | (simp_all; omega))
  refine ⟨Nat, fun k => k ≤ s.list.length, fun k => ([(6, iA k), (5, .own 3), (0, .ptr 0 0), (1, .ptr 2 0)], [cR s, .sl 4 (s.list.map sR), rO s, .sl 4 (s.list.map sR)]), fun k => s.list.length - k, ⟨0, Nat.zero_le _, ?_⟩, ?_⟩
  · all_goals refine ⟨[], ?_⟩
    repeat (any_goals (first | exact True.intro | exact rfl | with_reducible_and_instances rfl | exact (by kernel_rfl) | refine And.intro ?_ ?_))
    all_goals conv => whnf
  intro k hk
  conv => whnf
  by_cases hlt : k < s.list.length
  · have hx : s.list[k]? = some s.list[k] := List.getElem?_eq_getElem hlt
    generalize s.list[k] = x at hx
    repeat (any_goals (first
      | exact True.intro
      | (refine Or.inl ?_; conv => whnf)
      | (refine And.intro (fun _ => ?_) tf; conv => whnf)
      | (refine And.intro ft (fun _ => ?_); conv => whnf)
      | (refine And.intro (by kernel_rfl) ?_; conv => whnf)
      | (refine And.intro (by decide) ?_; conv => whnf)
      | (refine And.intro (fun _ => ?_) (fun h => absurd h (by decide)); conv => whnf)
      | (refine And.intro (fun h => absurd h (by decide)) (fun _ => ?_); conv => whnf)
      | (refine ⟨k, rfl, by simpa using hlt, ?_⟩; conv => whnf)
      | (refine ⟨_, map_get hx, ?_⟩; conv => whnf)
      | (refine ⟨k, _, rfl, map_get hx, ?_⟩; conv => whnf)
      | (refine And.intro (fun _ => ?_) (fun _ => ?_) <;> conv => whnf)
      | (refine ⟨_, _, (of_sat x).pu rfl rfl, ?_⟩; conv => whnf)
      | (refine ⟨_, _, neF [1, 1, 1, 1] (by kernel_rfl) rfl, ?_⟩; conv => whnf)))
    all_goals try (exfalso; simp only [decide_eq_true_eq, decide_eq_false_iff_not, Bool.not_eq_true', Bool.not_eq_false', Bool.not_eq_true, Bool.not_eq_false, beq_iff_eq, bne_iff_ne, beq_eq_false_iff_ne, bne_eq_false_iff_eq, ne_eq, Decidable.not_not] at *; first | omega | contradiction | (simp_all; done) | (simp_all; omega))
    refine ⟨k + 1, hlt, show s.list.length - (k + 1) < s.list.length - k by omega, ?_⟩
    all_goals refine ⟨[], ?_⟩
    repeat (any_goals (first | exact True.intro | exact rfl | with_reducible_and_instances rfl | exact (by kernel_rfl) | refine And.intro ?_ ?_))
    all_goals conv => whnf
    exact wk1 (by omega)
  · have hke : k = s.list.length := by omega
    subst hke
    repeat (any_goals (first
      | exact True.intro
      | (refine Or.inl ?_; conv => whnf)
      | (refine And.intro (fun _ => ?_) tf; conv => whnf)
      | (refine And.intro ft (fun _ => ?_); conv => whnf)
      | (refine And.intro (by kernel_rfl) ?_; conv => whnf)
      | (refine And.intro (by decide) ?_; conv => whnf)
      | (refine And.intro (fun _ => ?_) (fun h => absurd h (by decide)); conv => whnf)
      | (refine And.intro (fun h => absurd h (by decide)) (fun _ => ?_); conv => whnf)
      | (refine And.intro (fun _ => ?_) (fun _ => ?_) <;> conv => whnf)))
    all_goals try (exfalso; simp only [decide_eq_true_eq, decide_eq_false_iff_not, Bool.not_eq_true', Bool.not_eq_false', Bool.not_eq_true, Bool.not_eq_false, beq_iff_eq, bne_iff_ne, beq_eq_false_iff_ne, bne_eq_false_iff_eq, ne_eq, Decidable.not_not] at *; first | omega | contradiction | (simp_all; done) | (simp_all; omega))
    all_goals refine ⟨[], ?_⟩
    repeat (any_goals (first | exact True.intro | exact rfl | with_reducible_and_instances rfl | exact (by kernel_rfl) | refine And.intro ?_ ?_))
    all_goals conv => whnf
theorem meetL_far : ∀ (gs : List (Int × Int)) (a : Int × Int), a.1 ≤ (meetL a gs).1 ∧ (meetL a gs).2 ≤ a.2
  | [], a => ⟨Int.le_refl _, Int.le_refl _⟩
  | g :: gs, a => by
    have := meetL_far gs (max a.1 g.1, min a.2 g.2)
    have e : meetL a (g :: gs) = meetL (max a.1 g.1, min a.2 g.2) gs := rfl
    rw [e]
    simp at this
    omega
theorem meetR_in (gs : List (Int × Int)) : in64 (meetR gs).1.1 ∧ in64 (meetR gs).1.2 := by
  by_cases h : (meetR gs).2 = 0
  · obtain ⟨_, h2, h3⟩ := meetR_ok h
    have h2 : (meetL allG gs).1 ≤ (meetL allG gs).2 := of_decide_eq_true h2
    have h4 := meetL_far gs allG
    have e1 : allG.1 = -9223372036854775808 := rfl
    have e2 : allG.2 = 9223372036854775807 := rfl
    rw [h3]
    unfold in64
    omega
  · unfold meetR foldR at h ⊢
    split
    · exact ⟨⟨by decide, by decide⟩, ⟨by decide, by decide⟩⟩
    · split
      · rename_i h1 h2
        rw [if_neg h1, if_pos h2] at h
        exact absurd rfl h
      · exact ⟨⟨by decide, by decide⟩, ⟨by decide, by decide⟩⟩
theorem ratC_in (s : CSt) (stamp : Int) : in64 (ratC s stamp).1.1 ∧ in64 (ratC s stamp).1.2 := by
  unfold ratC
  split
  · exact ⟨⟨by decide, by decide⟩, ⟨by decide, by decide⟩⟩
  split
  · exact ⟨⟨by decide, by decide⟩, ⟨by decide, by decide⟩⟩
  split
  · exact meetR_in _
  · exact ⟨⟨by decide, by decide⟩, ⟨by decide, by decide⟩⟩
theorem point_same (s : CSt) (stamp : Int) (h : in64 (atC s stamp).1.1 ∧ in64 (atC s stamp).1.2) : pointC s stamp = ((if okG (atC s stamp).1 = true then ((atC s stamp).1.1 + (atC s stamp).1.2) / 2 else 0), (atC s stamp).2) := by
  unfold pointC
  split
  · rename_i h0
    rw [mid_floor _ h.1 h.2, h0]
  · rename_i h0
    rw [atC_err h0]; rfl
theorem calls_sat (rho trust stamp : Int) (l : List Smp) (hst : in64 stamp) : Sat Try.prog 3 [iA rho, iA trust, .d (.sl 4 (l.map sR)), iA stamp] [] (bA true) [] := by
  have hm : (l.map sR).length = l.length := List.length_map _
  by_cases h60 : 60 < l.length
  · refine sat_of_vc (T := tiOf Try.prog) (E := E0) Try.func3 rfl rfl hE0 hm0 rfl ?_
    conv => whnf
    repeat (any_goals (first
      | exact True.intro
      | (refine Or.inl ?_; conv => whnf)
      | (refine And.intro (fun _ => ?_) tf; conv => whnf)
      | (refine And.intro ft (fun _ => ?_); conv => whnf)
      | (refine And.intro (by kernel_rfl) ?_; conv => whnf)
      | (refine And.intro (by decide) ?_; conv => whnf)
      | (refine And.intro (fun _ => ?_) (fun h => absurd h (by decide)); conv => whnf)
      | (refine And.intro (fun h => absurd h (by decide)) (fun _ => ?_); conv => whnf)
      | (refine And.intro (fun _ => ?_) (fun _ => ?_) <;> conv => whnf)
      | (refine ⟨_, _, alive_sat.pu rfl rfl, ?_⟩; conv => whnf)))
    all_goals try (exfalso; simp only [decide_eq_true_eq, decide_eq_false_iff_not, Bool.not_eq_true', Bool.not_eq_false', Bool.not_eq_true, Bool.not_eq_false, beq_iff_eq, bne_iff_ne, beq_eq_false_iff_ne, bne_eq_false_iff_eq, ne_eq, Decidable.not_not] at *; first | omega | contradiction | (simp_all; done) | (simp_all; omega))
    all_goals refine ⟨[], ?_⟩
    repeat (any_goals (first | exact True.intro | exact rfl | with_reducible_and_instances rfl | exact (by kernel_rfl) | refine And.intro ?_ ?_))
    all_goals conv => whnf
  by_cases hok : okRate rho = true ∧ 0 ≤ trust ∧ trust ≤ 100
  · have n1 := new_ok rho trust hok.1 hok.2.1 hok.2.2
    have n2 := refNew_ok rho trust hok.1 hok.2.1 hok.2.2
    refine sat_of_vc (T := tiOf Try.prog) (E := E0) Try.func3 rfl rfl hE0 hm0 rfl ?_
    conv => whnf
    repeat (any_goals (first
      | exact True.intro
      | (refine Or.inl ?_; conv => whnf)
      | (refine And.intro (fun _ => ?_) tf; conv => whnf)
      | (refine And.intro ft (fun _ => ?_); conv => whnf)
      | (refine And.intro (by kernel_rfl) ?_; conv => whnf)
      | (refine And.intro (by decide) ?_; conv => whnf)
      | (refine And.intro (fun _ => ?_) (fun h => absurd h (by decide)); conv => whnf)
      | (refine And.intro (fun h => absurd h (by decide)) (fun _ => ?_); conv => whnf)
      | (refine And.intro (fun _ => ?_) (fun _ => ?_) <;> conv => whnf)
      | (refine ⟨_, _, alive_sat.pu rfl rfl, ?_⟩; conv => whnf)
      | (refine ⟨_, _, n1.nw rfl, ?_⟩; conv => whnf)
      | (refine ⟨_, _, n2.nw rfl, ?_⟩; conv => whnf)
      | (refine ⟨_, _, eqP (by kernel_rfl), ?_⟩; conv => whnf)
      | (refine ⟨_, _, eqB (by kernel_rfl), ?_⟩; conv => whnf)
      | (refine ⟨_, _, neB (by kernel_rfl), ?_⟩; conv => whnf)))
    all_goals try (exfalso; simp only [decide_eq_true_eq, decide_eq_false_iff_not, Bool.not_eq_true', Bool.not_eq_false', Bool.not_eq_true, Bool.not_eq_false, beq_iff_eq, bne_iff_ne, beq_eq_false_iff_ne, bne_eq_false_iff_eq, ne_eq, Decidable.not_not] at *; first | omega | contradiction | (simp_all; done) | (simp_all; omega))
    refine ⟨Nat × CSt, fun y => y.1 ≤ l.length ∧ CInv y.2 rho trust y.1 ∧ ∀ z ∈ y.2.list, okS z = true, fun y => ([(13, iA y.1), (9, .ptr 0 0), (11, .ptr 2 0), (2, .d (.sl 4 (l.map sR))), (3, iA stamp)], [cR y.2, .sl 4 (y.2.list.map sR), rO y.2]), fun y => l.length - y.1, ⟨(0, ⟨rho, trust, false, 0, []⟩), ⟨Nat.zero_le _, ⟨rfl, rfl, Int.le_refl _, Int.le_refl _, Nat.zero_le _, show (0 : Int) ≤ 0 + 1 by omega⟩, fun z hz => by simp at hz⟩, ?_⟩, ?_⟩
    · all_goals refine ⟨[], ?_⟩
      repeat (any_goals (first | exact True.intro | exact rfl | with_reducible_and_instances rfl | exact (by kernel_rfl) | refine And.intro ?_ ?_))
      all_goals conv => whnf
    rintro ⟨k, s⟩ ⟨hk, I, hz⟩
    have hk : k ≤ l.length := hk
    have I : CInv s rho trust k := I
    have hz : ∀ z ∈ s.list, okS z = true := hz
    conv => whnf
    by_cases hlt : k < l.length
    · have hx : l[k]? = some l[k] := List.getElem?_eq_getElem hlt
      generalize l[k] = x at hx
      have hI := I
      obtain ⟨r1, r2, s0, s1, n8, ns⟩ := I
      have d := add_sat s x n8 (by omega)
      have d2 := refAdd_sat s x n8 ⟨s0, by omega⟩
      rw [← add_same s x (by omega)] at d2
      have hw := addC_ways s x hI (by omega)
      have hz' := addC_okS s x hz
      generalize hq : addC s x = q at d d2 hw hz'
      obtain ⟨s', e⟩ := q
      have hI' : CInv s' rho trust (k + 1) := by
        rcases hw with ⟨_, h⟩ | ⟨_, _, _, _, h⟩ | ⟨_, _, _, _, h⟩
        · injection h with h _; subst h; exact ⟨r1, r2, s0, by omega, n8, ns⟩
        · exact h
        · exact h
      have h8 := hI'.n8
      have rin := ratC_in s' stamp
      have at2 := refClkAt_sat s' stamp hst.1 hst.2 h8
      rw [← at_same s' stamp hz' (by rw [hI'.r]; exact hok.1)] at at2 rin
      have at1 := clkAt_sat s' stamp h8
      have po := point_sat s' stamp h8
      rw [point_same s' stamp rin] at po
      have mi := refMid_sat (atC s' stamp).1 rin.1 rin.2
      have ss := same_sat (atC s' stamp).1 (atC s' stamp).1 (atC s' stamp).2 (atC s' stamp).2
      repeat (any_goals (first
        | exact True.intro
        | (refine Or.inl ?_; conv => whnf)
        | (refine And.intro (fun _ => ?_) tf; conv => whnf)
        | (refine And.intro ft (fun _ => ?_); conv => whnf)
        | (refine And.intro (by kernel_rfl) ?_; conv => whnf)
        | (refine And.intro (by decide) ?_; conv => whnf)
        | (refine And.intro (fun _ => ?_) (fun h => absurd h (by decide)); conv => whnf)
        | (refine And.intro (fun h => absurd h (by decide)) (fun _ => ?_); conv => whnf)
        | (refine ⟨k, _, rfl, map_get hx, ?_⟩; conv => whnf)
        | (refine And.intro (fun _ => ?_) (fun _ => ?_) <;> conv => whnf)
        | (refine ⟨_, _, d.at2 0 1 rfl rfl rfl rfl rfl, ?_⟩; conv => whnf)
        | (refine ⟨_, _, (of_sat x).pu rfl rfl, ?_⟩; conv => whnf)
        | (refine ⟨_, _, d2.at1 2 rfl rfl rfl, ?_⟩; conv => whnf)
        | (refine ⟨_, _, (agreeL_sat s' h8).at3 0 3 2 rfl rfl rfl rfl rfl rfl, ?_⟩; conv => whnf)
        | (refine ⟨_, _, at1.at2 0 3 rfl rfl rfl rfl rfl, ?_⟩; conv => whnf)
        | (refine ⟨_, _, at2.at1 2 rfl rfl rfl, ?_⟩; conv => whnf)
        | (refine ⟨_, _, po.at2 0 3 rfl rfl rfl rfl rfl, ?_⟩; conv => whnf)
        | (refine ⟨_, _, ss.pu rfl rfl, ?_⟩; conv => whnf)
        | (refine ⟨_, _, mi.pu rfl rfl, ?_⟩; conv => whnf)))
      all_goals try (exfalso; simp only [decide_eq_true_eq, decide_eq_false_iff_not, Bool.not_eq_true', Bool.not_eq_false', Bool.not_eq_true, Bool.not_eq_false, beq_iff_eq, bne_iff_ne, beq_eq_false_iff_ne, bne_eq_false_iff_eq, ne_eq, Decidable.not_not] at *; first | omega | contradiction | (simp_all; done) | (simp_all; omega))
      refine ⟨(k + 1, s'), ⟨hlt, hI', hz'⟩, show l.length - (k + 1) < l.length - k by omega, ?_⟩
      all_goals refine ⟨[(1, 3)], ?_⟩
      repeat (any_goals (first | exact True.intro | exact rfl | with_reducible_and_instances rfl | exact (by kernel_rfl) | refine And.intro ?_ ?_))
      all_goals conv => whnf
      exact wk1 (show k ≤ _ by omega)
    · repeat (any_goals (first
        | exact True.intro
        | (refine Or.inl ?_; conv => whnf)
        | (refine And.intro (fun _ => ?_) tf; conv => whnf)
        | (refine And.intro ft (fun _ => ?_); conv => whnf)
        | (refine And.intro (by kernel_rfl) ?_; conv => whnf)
        | (refine And.intro (by decide) ?_; conv => whnf)
        | (refine And.intro (fun _ => ?_) (fun h => absurd h (by decide)); conv => whnf)
        | (refine And.intro (fun h => absurd h (by decide)) (fun _ => ?_); conv => whnf)
        | (refine And.intro (fun _ => ?_) (fun _ => ?_) <;> conv => whnf)))
      all_goals try (exfalso; simp only [decide_eq_true_eq, decide_eq_false_iff_not, Bool.not_eq_true', Bool.not_eq_false', Bool.not_eq_true, Bool.not_eq_false, beq_iff_eq, bne_iff_ne, beq_eq_false_iff_ne, bne_eq_false_iff_eq, ne_eq, Decidable.not_not] at *; first | omega | contradiction | (simp_all; done) | (simp_all; omega))
      all_goals refine ⟨[], ?_⟩
      repeat (any_goals (first | exact True.intro | exact rfl | with_reducible_and_instances rfl | exact (by kernel_rfl) | refine And.intro ?_ ?_))
      all_goals conv => whnf
  · have n1 := new_err rho trust (by simp at hok; rcases h : okRate rho with _ | _ <;> simp_all; omega)
    have n2 := refNew_err rho trust (by simp at hok; rcases h : okRate rho with _ | _ <;> simp_all; omega)
    refine sat_of_vc (T := tiOf Try.prog) (E := E0) Try.func3 rfl rfl hE0 hm0 rfl ?_
    conv => whnf
    repeat (any_goals (first
      | exact True.intro
      | (refine Or.inl ?_; conv => whnf)
      | (refine And.intro (fun _ => ?_) tf; conv => whnf)
      | (refine And.intro ft (fun _ => ?_); conv => whnf)
      | (refine And.intro (by kernel_rfl) ?_; conv => whnf)
      | (refine And.intro (by decide) ?_; conv => whnf)
      | (refine And.intro (fun _ => ?_) (fun h => absurd h (by decide)); conv => whnf)
      | (refine And.intro (fun h => absurd h (by decide)) (fun _ => ?_); conv => whnf)
      | (refine And.intro (fun _ => ?_) (fun _ => ?_) <;> conv => whnf)
      | (refine ⟨_, _, alive_sat.pu rfl rfl, ?_⟩; conv => whnf)
      | (refine ⟨_, _, n1.pu rfl rfl, ?_⟩; conv => whnf)
      | (refine ⟨_, _, n2.pu rfl rfl, ?_⟩; conv => whnf)
      | (refine ⟨_, _, eqN (by kernel_rfl), ?_⟩; conv => whnf)
      | (refine ⟨_, _, eqB (by kernel_rfl), ?_⟩; conv => whnf)
      | (refine ⟨_, _, neB (by kernel_rfl), ?_⟩; conv => whnf)))
    all_goals try (exfalso; simp only [decide_eq_true_eq, decide_eq_false_iff_not, Bool.not_eq_true', Bool.not_eq_false', Bool.not_eq_true, Bool.not_eq_false, beq_iff_eq, bne_iff_ne, beq_eq_false_iff_ne, bne_eq_false_iff_eq, ne_eq, Decidable.not_not] at *; first | omega | contradiction | (simp_all; done) | (simp_all; omega))
    all_goals refine ⟨[], ?_⟩
    repeat (any_goals (first | exact True.intro | exact rfl | with_reducible_and_instances rfl | exact (by kernel_rfl) | refine And.intro ?_ ?_))
    all_goals conv => whnf
theorem calls_law (H : Type) (enc : TypeId × Value → H) : LawWalk H enc Try.prog 3 Try.f3 :=
  lawWalk_of_sat (by kernel_rfl) fun args h => by
    obtain ⟨a, _, rfl, h1, h⟩ := h
    obtain ⟨b, _, rfl, h2, h⟩ := h
    obtain ⟨x, _, rfl, h3, h⟩ := h
    obtain ⟨c, _, rfl, h4, h⟩ := h
    obtain rfl := h
    obtain ⟨a, rfl, _⟩ := ty_i64 h1 Try.underlying2
    obtain ⟨b, rfl, _⟩ := ty_i64 h2 Try.underlying3
    obtain ⟨l, rfl, _⟩ := ty_smps h3
    obtain ⟨c, rfl, hc⟩ := ty_i64 h4 Try.underlying2
    exact calls_sat a b c l hc
end Go.Proofs.Ytgidaifoiljgoaa
/- Two closed facts on the program that every law's statement asks. -/
namespace Go.Proofs.Ytgidaifoiljgoaa
set_option linter.unusedSimpArgs false
set_option linter.unusedVariables false
open Go.RowKit
theorem own : ownKnob Try.prog.godebug = none := by kernel_rfl
theorem laidOut : laidOutB Try.prog = true := by kernel_rfl
end Go.Proofs.Ytgidaifoiljgoaa
