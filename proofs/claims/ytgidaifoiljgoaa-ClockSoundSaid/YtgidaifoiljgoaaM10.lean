/- Parts Ki, Kw, DrI, DrJ, DrK of the proof, put together. -/
import Derived.Test.YtgidaifoiljgoaaM9
/- ClockMeets, by conditions. -/
namespace Go.Proofs.Ytgidaifoiljgoaa
set_option linter.unusedSimpArgs false
set_option linter.unusedVariables false
open Go.RowKit
set_option maxRecDepth 100000
theorem addC_next {s : CSt} {rho least : Int} {k : Nat} (I : CInv s rho least k) (x : Smp) (hk : k ≤ 1000000) : CInv (addC s x).1 rho least (k + 1) := by
  rcases addC_ways s x I hk with ⟨_, h⟩ | ⟨_, _, _, _, h⟩ | ⟨_, _, _, _, h⟩
  · rw [h]; exact ⟨I.r, I.l, I.s0, by have := I.s1; show s.streak ≤ _; omega, I.n8, I.ns⟩
  · exact h
  · exact h
theorem meets_sat (rho stamp : Int) (l : List Smp) (m : Smp) (hst : in64 stamp) : Sat Try.prog 6 [iA rho, .d (.sl 4 (l.map sR)), sA m, iA stamp] [] (bA true) [] := by
  by_cases h60 : 60 < l.length
  · refine sat_of_vc (T := tiOf Try.prog) (E := E0) Try.func6 rfl rfl hE0 hm0 rfl ?_
    conv => whnf
    repeat (any_goals (first
      | exact True.intro
      | (refine Or.inl ?_; conv => whnf)
      | (refine And.intro (fun _ => ?_) tf; conv => whnf)
      | (refine And.intro ft (fun _ => ?_); conv => whnf)
      | (refine And.intro (by kernel_rfl) ?_; conv => whnf)
      | (refine And.intro (by decide) ?_; conv => whnf)
      | (refine And.intro (fun _ => ?_) (fun h => absurd h (by decide)); conv => whnf)
      | (refine And.intro (fun h => absurd h (by decide)) (fun _ => ?_); conv => whnf)
      | (refine And.intro (fun _ => ?_) (fun _ => ?_) <;> conv => whnf)
      | (refine ⟨_, _, alive_sat.pu rfl rfl, ?_⟩; conv => whnf)))
    all_goals try (exfalso; simp only [decide_eq_true_eq, decide_eq_false_iff_not, Bool.not_eq_true', Bool.not_eq_false', Bool.not_eq_true, Bool.not_eq_false, beq_iff_eq, bne_iff_ne, beq_eq_false_iff_ne, bne_eq_false_iff_eq, ne_eq, Decidable.not_not] at *; first | omega | contradiction | (simp_all; done) | (simp_all; omega))
    all_goals refine ⟨[], ?_⟩
    repeat (any_goals (first | exact True.intro | exact rfl | with_reducible_and_instances rfl | exact (by kernel_rfl) | refine And.intro ?_ ?_))
    all_goals conv => whnf
  by_cases hok : okRate rho = true
  · have n1 := new_ok rho 2 hok (by omega) (by omega)
    refine sat_of_vc (T := tiOf Try.prog) (E := E0) Try.func6 rfl rfl hE0 hm0 rfl ?_
    conv => whnf
    repeat (any_goals (first
      | exact True.intro
      | (refine And.intro (fun _ => ?_) tf; conv => whnf)
      | (refine And.intro ft (fun _ => ?_); conv => whnf)
      | (refine And.intro (by kernel_rfl) ?_; conv => whnf)
      | (refine And.intro (by decide) ?_; conv => whnf)
      | (refine And.intro (fun _ => ?_) (fun h => absurd h (by decide)); conv => whnf)
      | (refine And.intro (fun h => absurd h (by decide)) (fun _ => ?_); conv => whnf)
      | (refine And.intro (fun _ => ?_) (fun _ => ?_) <;> conv => whnf)))
    all_goals try (refine Or.inl ?_; conv => whnf)
    repeat (any_goals (first
      | exact True.intro
      | (refine And.intro (fun _ => ?_) tf; conv => whnf)
      | (refine And.intro ft (fun _ => ?_); conv => whnf)
      | (refine And.intro (by kernel_rfl) ?_; conv => whnf)
      | (refine And.intro (by decide) ?_; conv => whnf)
      | (refine And.intro (fun _ => ?_) (fun h => absurd h (by decide)); conv => whnf)
      | (refine And.intro (fun h => absurd h (by decide)) (fun _ => ?_); conv => whnf)
      | (refine And.intro (fun _ => ?_) (fun _ => ?_) <;> conv => whnf)
      | (refine ⟨_, _, alive_sat.pu rfl rfl, ?_⟩; conv => whnf)))
    all_goals try (refine Or.inl ?_; conv => whnf)
    repeat (any_goals (first
      | exact True.intro
      | (refine And.intro (fun _ => ?_) tf; conv => whnf)
      | (refine And.intro ft (fun _ => ?_); conv => whnf)
      | (refine And.intro (by kernel_rfl) ?_; conv => whnf)
      | (refine And.intro (by decide) ?_; conv => whnf)
      | (refine And.intro (fun _ => ?_) (fun h => absurd h (by decide)); conv => whnf)
      | (refine And.intro (fun h => absurd h (by decide)) (fun _ => ?_); conv => whnf)
      | (refine And.intro (fun _ => ?_) (fun _ => ?_) <;> conv => whnf)))
    all_goals try (exfalso; simp only [decide_eq_true_eq, decide_eq_false_iff_not, Bool.not_eq_true', Bool.not_eq_false', Bool.not_eq_true, Bool.not_eq_false, beq_iff_eq, bne_iff_ne, beq_eq_false_iff_ne, bne_eq_false_iff_eq, ne_eq, Decidable.not_not] at *; first | omega | contradiction | (simp_all; done) | (simp_all; omega))
    all_goals try (refine Or.inl ?_; conv => whnf)
    repeat (any_goals (first
      | exact True.intro
      | (refine And.intro (fun _ => ?_) tf; conv => whnf)
      | (refine And.intro ft (fun _ => ?_); conv => whnf)
      | (refine And.intro (by kernel_rfl) ?_; conv => whnf)
      | (refine And.intro (by decide) ?_; conv => whnf)
      | (refine And.intro (fun _ => ?_) (fun h => absurd h (by decide)); conv => whnf)
      | (refine And.intro (fun h => absurd h (by decide)) (fun _ => ?_); conv => whnf)
      | (refine And.intro (fun _ => ?_) (fun _ => ?_) <;> conv => whnf)
      | (refine ⟨_, _, n1.nw rfl, ?_⟩; conv => whnf)))
    all_goals try (refine Or.inl ?_; conv => whnf)
    repeat (any_goals (first
      | exact True.intro
      | (refine And.intro (fun _ => ?_) tf; conv => whnf)
      | (refine And.intro ft (fun _ => ?_); conv => whnf)
      | (refine And.intro (by kernel_rfl) ?_; conv => whnf)
      | (refine And.intro (by decide) ?_; conv => whnf)
      | (refine And.intro (fun _ => ?_) (fun h => absurd h (by decide)); conv => whnf)
      | (refine And.intro (fun h => absurd h (by decide)) (fun _ => ?_); conv => whnf)
      | (refine And.intro (fun _ => ?_) (fun _ => ?_) <;> conv => whnf)
      | (refine ⟨_, _, eqP (by kernel_rfl), ?_⟩; conv => whnf)))
    all_goals try (exfalso; simp only [decide_eq_true_eq, decide_eq_false_iff_not, Bool.not_eq_true', Bool.not_eq_false', Bool.not_eq_true, Bool.not_eq_false, beq_iff_eq, bne_iff_ne, beq_eq_false_iff_ne, bne_eq_false_iff_eq, ne_eq, Decidable.not_not] at *; first | omega | contradiction | (simp_all; done) | (simp_all; omega))
    all_goals try (refine Or.inl ?_; conv => whnf)
    repeat (any_goals (first
      | exact True.intro
      | (refine And.intro (fun _ => ?_) tf; conv => whnf)
      | (refine And.intro ft (fun _ => ?_); conv => whnf)
      | (refine And.intro (by kernel_rfl) ?_; conv => whnf)
      | (refine And.intro (by decide) ?_; conv => whnf)
      | (refine And.intro (fun _ => ?_) (fun h => absurd h (by decide)); conv => whnf)
      | (refine And.intro (fun h => absurd h (by decide)) (fun _ => ?_); conv => whnf)
      | (refine And.intro (fun _ => ?_) (fun _ => ?_) <;> conv => whnf)))
    all_goals try (refine Or.inl ?_; conv => whnf)
    repeat (any_goals (first
      | exact True.intro
      | (refine And.intro (fun _ => ?_) tf; conv => whnf)
      | (refine And.intro ft (fun _ => ?_); conv => whnf)
      | (refine And.intro (by kernel_rfl) ?_; conv => whnf)
      | (refine And.intro (by decide) ?_; conv => whnf)
      | (refine And.intro (fun _ => ?_) (fun h => absurd h (by decide)); conv => whnf)
      | (refine And.intro (fun h => absurd h (by decide)) (fun _ => ?_); conv => whnf)
      | (refine And.intro (fun _ => ?_) (fun _ => ?_) <;> conv => whnf)))
    refine ⟨Nat × CSt, fun y => y.1 ≤ l.length ∧ CInv y.2 rho 2 y.1 ∧ ∀ x ∈ y.2.list, okS x = true, fun y => ([(11, iA y.1), (9, .ptr 0 0), (6, .ptr 2 0), (0, iA rho), (1, .d (.sl 4 (l.map sR))), (3, iA stamp)], [cR y.2, .sl 4 (y.2.list.map sR), .cells [iA m.asked, iA m.got, iA m.sent, iA m.came]]), fun y => l.length - y.1, ⟨(0, ⟨rho, 2, false, 0, []⟩), ⟨Nat.zero_le _, ⟨rfl, rfl, Int.le_refl _, Int.le_refl _, Nat.zero_le _, show (0 : Int) ≤ 0 + 1 by omega⟩, fun x hx => by simp at hx⟩, ?_⟩, ?_⟩
    · all_goals refine ⟨[(0, 2), (0, 1)], ?_⟩
      repeat (any_goals (first | exact True.intro | exact rfl | with_reducible_and_instances rfl | exact (by kernel_rfl) | refine And.intro ?_ ?_))
      all_goals conv => whnf
    rintro ⟨k, s⟩ ⟨hk, I, hS⟩
    have hk : k ≤ l.length := hk
    have I : CInv s rho 2 k := I
    have hS : ∀ x ∈ s.list, okS x = true := hS
    conv => whnf
    by_cases hlt : k < l.length
    · have hx : l[k]? = some l[k] := List.getElem?_eq_getElem hlt
      generalize l[k] = x at hx
      have d := add_sat s x I.n8 (by have := I.s0; omega)
      repeat (any_goals (first
        | exact True.intro
        | (refine Or.inl ?_; conv => whnf)
        | (refine And.intro (fun _ => ?_) tf; conv => whnf)
        | (refine And.intro ft (fun _ => ?_); conv => whnf)
        | (refine And.intro (by kernel_rfl) ?_; conv => whnf)
        | (refine And.intro (by decide) ?_; conv => whnf)
        | (refine And.intro (fun _ => ?_) (fun h => absurd h (by decide)); conv => whnf)
        | (refine And.intro (fun h => absurd h (by decide)) (fun _ => ?_); conv => whnf)
        | (refine And.intro (fun _ => ?_) (fun h => absurd h (by simpa using hlt)); conv => whnf)
        | (refine ⟨k, _, rfl, map_get hx, ?_⟩; conv => whnf)
        | (refine And.intro (fun _ => ?_) (fun _ => ?_) <;> conv => whnf)
        | (refine ⟨_, _, d.at2 0 1 rfl rfl rfl rfl rfl, ?_⟩; conv => whnf)))
      refine ⟨(k + 1, (addC s x).1), ⟨hlt, addC_next I x (by omega), addC_okS s x hS⟩, show l.length - (k + 1) < l.length - k by omega, ?_⟩
      all_goals refine ⟨[(1, 3)], ?_⟩
      repeat (any_goals (first | exact True.intro | exact rfl | with_reducible_and_instances rfl | exact (by kernel_rfl) | refine And.intro ?_ ?_))
      all_goals conv => whnf
      exact wk1 (by omega)
    · have h8 := I.n8
      repeat (any_goals (first
        | exact True.intro
        | (refine And.intro (fun _ => ?_) tf; conv => whnf)
        | (refine And.intro ft (fun _ => ?_); conv => whnf)
        | (refine And.intro (by kernel_rfl) ?_; conv => whnf)
        | (refine And.intro (by decide) ?_; conv => whnf)
        | (refine And.intro (fun _ => ?_) (fun h => absurd h (by decide)); conv => whnf)
        | (refine And.intro (fun h => absurd h (by decide)) (fun _ => ?_); conv => whnf)
        | (refine And.intro (fun h => absurd h (by simpa using hlt)) (fun _ => ?_); conv => whnf)
        | (refine And.intro (fun _ => ?_) (fun _ => ?_) <;> conv => whnf)))
      all_goals try (exfalso; simp only [decide_eq_true_eq, decide_eq_false_iff_not, Bool.not_eq_true', Bool.not_eq_false', Bool.not_eq_true, Bool.not_eq_false, beq_iff_eq, bne_iff_ne, beq_eq_false_iff_ne, bne_eq_false_iff_eq, ne_eq, Decidable.not_not] at *; first | omega | contradiction | (simp_all; done) | (simp_all; omega))
      all_goals try (refine Or.inl ?_; conv => whnf)
      repeat (any_goals (first
        | exact True.intro
        | (refine And.intro (fun _ => ?_) tf; conv => whnf)
        | (refine And.intro ft (fun _ => ?_); conv => whnf)
        | (refine And.intro (by kernel_rfl) ?_; conv => whnf)
        | (refine And.intro (by decide) ?_; conv => whnf)
        | (refine And.intro (fun _ => ?_) (fun h => absurd h (by decide)); conv => whnf)
        | (refine And.intro (fun h => absurd h (by decide)) (fun _ => ?_); conv => whnf)
        | (refine And.intro (fun _ => ?_) (fun _ => ?_) <;> conv => whnf)
        | (refine ⟨_, _, (clkAt_sat s stamp h8).at2 0 1 rfl rfl rfl rfl rfl, ?_⟩; conv => whnf)
        | (refine ⟨_, _, (samples_sat s h8).at2 0 1 rfl rfl rfl rfl rfl, ?_⟩; conv => whnf)))
      all_goals try (refine Or.inl ?_; conv => whnf)
      repeat (any_goals (first
        | exact True.intro
        | (refine And.intro (fun _ => ?_) tf; conv => whnf)
        | (refine And.intro ft (fun _ => ?_); conv => whnf)
        | (refine And.intro (by kernel_rfl) ?_; conv => whnf)
        | (refine And.intro (by decide) ?_; conv => whnf)
        | (refine And.intro (fun _ => ?_) (fun h => absurd h (by decide)); conv => whnf)
        | (refine And.intro (fun h => absurd h (by decide)) (fun _ => ?_); conv => whnf)
        | (refine And.intro (fun _ => ?_) (fun _ => ?_) <;> conv => whnf)))
      all_goals try (exfalso; simp only [decide_eq_true_eq, decide_eq_false_iff_not, Bool.not_eq_true', Bool.not_eq_false', Bool.not_eq_true, Bool.not_eq_false, beq_iff_eq, bne_iff_ne, beq_eq_false_iff_ne, bne_eq_false_iff_eq, ne_eq, Decidable.not_not] at *; first | omega | contradiction | (simp_all; done) | (simp_all; omega))
      have hr : s.rho = rho := I.r
      subst hr
      refine ⟨Nat, fun j => j ≤ s.list.length ∧ (s.list.take j).find? (fun x => decide ((atR x stamp s.rho).2 ≠ 0)) = none, fun j => ([(16, iA j), (14, .own 4), (15, .own 5), (13, iA (atC s stamp).2), (12, .ptr 3 0), (9, .ptr 0 0), (6, .ptr 2 0), (0, iA s.rho), (3, iA stamp)], [cR s, .sl 4 (s.list.map sR), .cells [iA m.asked, iA m.got, iA m.sent, iA m.came], .cells [iA (atC s stamp).1.1, iA (atC s stamp).1.2], .sl 4 (s.list.map sR), .sl 2 (((s.list.take j).map fun x => (atR x stamp s.rho).1).map gR)]), fun j => s.list.length - j, ⟨0, ⟨Nat.zero_le _, rfl⟩, ?_⟩, ?_⟩
      · all_goals refine ⟨[], ?_⟩
        repeat (any_goals (first | exact True.intro | exact rfl | with_reducible_and_instances rfl | exact (by kernel_rfl) | refine And.intro ?_ ?_))
        all_goals conv => whnf
      rintro j ⟨hj, hf⟩
      conv => whnf
      by_cases hjl : j < s.list.length
      · have hx : s.list[j]? = some s.list[j] := List.getElem?_eq_getElem hjl
        have hxs := hS s.list[j] (List.getElem_mem hjl)
        generalize s.list[j] = x at hx hxs
        repeat (any_goals (first
          | exact True.intro
          | (refine Or.inl ?_; conv => whnf)
          | (refine And.intro (fun _ => ?_) tf; conv => whnf)
          | (refine And.intro ft (fun _ => ?_); conv => whnf)
          | (refine And.intro (by kernel_rfl) ?_; conv => whnf)
          | (refine And.intro (by decide) ?_; conv => whnf)
          | (refine And.intro (fun _ => ?_) (fun h => absurd h (by decide)); conv => whnf)
          | (refine And.intro (fun h => absurd h (by decide)) (fun _ => ?_); conv => whnf)
          | (refine And.intro (fun _ => ?_) (fun h => absurd h (by simpa using hjl)); conv => whnf)
          | (refine ⟨_, rfl, by simpa using hjl, ?_⟩; conv => whnf)
          | (refine ⟨_, map_get hx, ?_⟩; conv => whnf)
          | (refine And.intro (fun _ => ?_) (fun _ => ?_) <;> conv => whnf)
          | (refine ⟨_, _, (at_sat x stamp s.rho hst.1 hst.2).pu rfl rfl, ?_⟩; conv => whnf)
          | (refine ⟨_, _, ap 2 16 (by kernel_rfl) rfl rfl (by simp; omega), ?_⟩; conv => whnf)))
        · have hb := atC_bad hS hf hx (by (try simp only [decide_eq_true_eq, decide_eq_false_iff_not, Bool.not_eq_true', Bool.not_eq_false', Bool.not_eq_true, Bool.not_eq_false, beq_iff_eq, bne_iff_ne, beq_eq_false_iff_ne, bne_eq_false_iff_eq, ne_eq, Decidable.not_not, Int.natCast_eq_zero] at *); first | omega | assumption | (simp_all; done) | (simp_all; omega))
          all_goals refine ⟨[], ?_⟩
          repeat (any_goals (first | exact True.intro | exact rfl | with_reducible_and_instances rfl | exact (by kernel_rfl) | refine And.intro ?_ ?_))
          all_goals conv => whnf
          simp_all
          omega
        · all_goals refine ⟨[], ?_⟩
          repeat (any_goals (first | exact True.intro | exact rfl | with_reducible_and_instances rfl | exact (by kernel_rfl) | refine And.intro ?_ ?_))
          all_goals conv => whnf
        · refine ⟨j + 1, ⟨hjl, find_next hf hx (by (try simp only [decide_eq_true_eq, decide_eq_false_iff_not, Bool.not_eq_true', Bool.not_eq_false', Bool.not_eq_true, Bool.not_eq_false, beq_iff_eq, bne_iff_ne, beq_eq_false_iff_ne, bne_eq_false_iff_eq, ne_eq, Decidable.not_not, Int.natCast_eq_zero] at *); first | omega | assumption | (simp_all; done) | (simp_all; omega))⟩, show s.list.length - (j + 1) < s.list.length - j by omega, ?_⟩
          all_goals refine ⟨[(5, 8)], ?_⟩
          repeat (any_goals (first | exact True.intro | exact rfl | with_reducible_and_instances rfl | exact (by kernel_rfl) | refine And.intro ?_ ?_))
          all_goals conv => whnf
          · exact wk1 (by omega)
          · rw [map_take_succ hx, List.map_append]; rfl
      · have hjj : j = s.list.length := by omega
        subst hjj
        by_cases hne : s.list = []
        · have he : atC s stamp = ((0, 0), 19) := by unfold atC; rw [if_pos hne]
          have hlen : s.list.length = 0 := by rw [hne]; rfl
          repeat (any_goals (first
            | exact True.intro
            | (refine Or.inl ?_; conv => whnf)
            | (refine And.intro (fun _ => ?_) tf; conv => whnf)
            | (refine And.intro ft (fun _ => ?_); conv => whnf)
            | (refine And.intro (by kernel_rfl) ?_; conv => whnf)
            | (refine And.intro (by decide) ?_; conv => whnf)
            | (refine And.intro (fun _ => ?_) (fun h => absurd h (by decide)); conv => whnf)
            | (refine And.intro (fun h => absurd h (by decide)) (fun _ => ?_); conv => whnf)
            | (refine And.intro (fun h => absurd h (by first | (simp; done) | omega)) (fun _ => ?_); conv => whnf)
            | (refine And.intro (fun _ => ?_) (fun _ => ?_) <;> conv => whnf)
            | (refine ⟨_, _, lendO (meet_sat _ (by simp; omega)) rfl rfl, ?_⟩; conv => whnf)))
          all_goals try (exfalso; simp only [decide_eq_true_eq, decide_eq_false_iff_not, Bool.not_eq_true', Bool.not_eq_false', Bool.not_eq_true, Bool.not_eq_false, beq_iff_eq, bne_iff_ne, beq_eq_false_iff_ne, bne_eq_false_iff_eq, ne_eq, Decidable.not_not] at *; first | omega | contradiction | (simp_all; done) | (simp_all; omega))
          · all_goals refine ⟨[], ?_⟩
            repeat (any_goals (first | exact True.intro | exact rfl | with_reducible_and_instances rfl | exact (by kernel_rfl) | refine And.intro ?_ ?_))
            all_goals conv => whnf
            rw [he]; rfl
        · rw [List.take_length] at hf
          have he := atC_good hne hf
          have mt := meet_sat ((s.list.take s.list.length).map fun x => (atR x stamp s.rho).1) (by simp; omega)
          rw [show meetR ((s.list.take s.list.length).map fun x => (atR x stamp s.rho).1) = atC s stamp by rw [List.take_length]; exact he.symm] at mt
          have hs0 := I.s0
          have h8' := (addC_next I m (by omega)).n8
          repeat (any_goals (first
            | exact True.intro
            | (refine Or.inl ?_; conv => whnf)
            | (refine And.intro (fun _ => ?_) tf; conv => whnf)
            | (refine And.intro ft (fun _ => ?_); conv => whnf)
            | (refine And.intro (by kernel_rfl) ?_; conv => whnf)
            | (refine And.intro (by decide) ?_; conv => whnf)
            | (refine And.intro (fun _ => ?_) (fun h => absurd h (by decide)); conv => whnf)
            | (refine And.intro (fun h => absurd h (by decide)) (fun _ => ?_); conv => whnf)
            | (refine And.intro (fun h => absurd h (by first | (simp; done) | omega)) (fun _ => ?_); conv => whnf)
            | (refine And.intro (fun _ => ?_) (fun _ => ?_) <;> conv => whnf)
            | (refine ⟨_, _, lendO mt rfl rfl, ?_⟩; conv => whnf)
            | (refine ⟨_, _, neS (by kernel_rfl), ?_⟩; conv => whnf)
            | (refine ⟨_, _, (add_sat s m h8 (by omega)).at2 0 1 rfl rfl rfl rfl rfl, ?_⟩; conv => whnf)
            | (refine ⟨_, _, (clkAt_sat (addC s m).1 stamp h8').at2 0 7 rfl rfl rfl rfl rfl, ?_⟩; conv => whnf)
            | (refine ⟨_, _, (within_sat _ _).pu rfl rfl, ?_⟩; conv => whnf)))
          all_goals try (exfalso; simp only [decide_eq_true_eq, decide_eq_false_iff_not, Bool.not_eq_true', Bool.not_eq_false', Bool.not_eq_true, Bool.not_eq_false, beq_iff_eq, bne_iff_ne, beq_eq_false_iff_ne, bne_eq_false_iff_eq, ne_eq, Decidable.not_not] at *; first | omega | contradiction | (simp_all; done) | (simp_all; omega))
          · have hn8 : ¬ s.list.length = 8 := fun e => by simp_all
            rw [meets_last (s := s) (x := m) (stamp := stamp) (by (try simp only [decide_eq_true_eq, decide_eq_false_iff_not, Bool.not_eq_true', Bool.not_eq_false', Bool.not_eq_true, Bool.not_eq_false, beq_iff_eq, bne_iff_ne, beq_eq_false_iff_ne, bne_eq_false_iff_eq, ne_eq, Decidable.not_not, Int.natCast_eq_zero] at *); first | omega | assumption | (simp_all; done) | (simp_all; omega)) (by (try simp only [decide_eq_true_eq, decide_eq_false_iff_not, Bool.not_eq_true', Bool.not_eq_false', Bool.not_eq_true, Bool.not_eq_false, beq_iff_eq, bne_iff_ne, beq_eq_false_iff_ne, bne_eq_false_iff_eq, ne_eq, Decidable.not_not, Int.natCast_eq_zero] at *); first | omega | assumption | (simp_all; done) | (simp_all; omega)) (by (try simp only [decide_eq_true_eq, decide_eq_false_iff_not, Bool.not_eq_true', Bool.not_eq_false', Bool.not_eq_true, Bool.not_eq_false, beq_iff_eq, bne_iff_ne, beq_eq_false_iff_ne, bne_eq_false_iff_eq, ne_eq, Decidable.not_not, Int.natCast_eq_zero] at *); first | omega | assumption | (simp_all; done) | (simp_all; omega)) h8 hn8]
            all_goals refine ⟨[], ?_⟩
            repeat (any_goals (first | exact True.intro | exact rfl | with_reducible_and_instances rfl | exact (by kernel_rfl) | refine And.intro ?_ ?_))
            all_goals conv => whnf
          all_goals refine ⟨[], ?_⟩
          repeat (any_goals (first | exact True.intro | exact rfl | with_reducible_and_instances rfl | exact (by kernel_rfl) | refine And.intro ?_ ?_))
          all_goals conv => whnf
  · have n1 := new_err rho 2 (by simp at hok; exact .inl hok)
    refine sat_of_vc (T := tiOf Try.prog) (E := E0) Try.func6 rfl rfl hE0 hm0 rfl ?_
    conv => whnf
    repeat (any_goals (first
      | exact True.intro
      | (refine Or.inl ?_; conv => whnf)
      | (refine And.intro (fun _ => ?_) tf; conv => whnf)
      | (refine And.intro ft (fun _ => ?_); conv => whnf)
      | (refine And.intro (by kernel_rfl) ?_; conv => whnf)
      | (refine And.intro (by decide) ?_; conv => whnf)
      | (refine And.intro (fun _ => ?_) (fun h => absurd h (by decide)); conv => whnf)
      | (refine And.intro (fun h => absurd h (by decide)) (fun _ => ?_); conv => whnf)
      | (refine And.intro (fun _ => ?_) (fun _ => ?_) <;> conv => whnf)
      | (refine ⟨_, _, alive_sat.pu rfl rfl, ?_⟩; conv => whnf)
      | (refine ⟨_, _, n1.pu rfl rfl, ?_⟩; conv => whnf)
      | (refine ⟨_, _, eqN (by kernel_rfl), ?_⟩; conv => whnf)))
    all_goals try (exfalso; simp only [decide_eq_true_eq, decide_eq_false_iff_not, Bool.not_eq_true', Bool.not_eq_false', Bool.not_eq_true, Bool.not_eq_false, beq_iff_eq, bne_iff_ne, beq_eq_false_iff_ne, bne_eq_false_iff_eq, ne_eq, Decidable.not_not] at *; first | omega | contradiction | (simp_all; done) | (simp_all; omega))
    all_goals refine ⟨[], ?_⟩
    repeat (any_goals (first | exact True.intro | exact rfl | with_reducible_and_instances rfl | exact (by kernel_rfl) | refine And.intro ?_ ?_))
    all_goals conv => whnf
theorem meets_law (H : Type) (enc : TypeId × Value → H) : LawWalk H enc Try.prog 6 Try.f6 :=
  lawWalk_of_sat (by kernel_rfl) fun args h => by
    obtain ⟨a, _, rfl, h1, h⟩ := h
    obtain ⟨x, _, rfl, h2, h⟩ := h
    obtain ⟨m, _, rfl, h3, h⟩ := h
    obtain ⟨b, _, rfl, h4, h⟩ := h
    obtain rfl := h
    obtain ⟨a, rfl, _⟩ := ty_i64 h1 Try.underlying2
    obtain ⟨l, rfl, _⟩ := ty_smps h2
    obtain ⟨m, rfl, _⟩ := ty_smp h3
    obtain ⟨b, rfl, hb⟩ := ty_i64 h4 Try.underlying2
    exact meets_sat a b l m hb
end Go.Proofs.Ytgidaifoiljgoaa
/- ClockWidth, by conditions. -/
namespace Go.Proofs.Ytgidaifoiljgoaa
set_option linter.unusedSimpArgs false
set_option linter.unusedVariables false
open Go.RowKit
set_option maxRecDepth 100000
section
variable {P : Program} {L : List AObj} {ty n : Nat}
def mx2 (x y : Int) : Int := if y > x then y else x
theorem max4 {k : IntKind} {x y z u : Int} {a b c d : Operand} {ts : Array TypeId} : Does P (.call { callee := .builtin .max, args := #[a, b, c, d], argTypes := ts }) ty L n [.d (.v (.int k x)), .d (.v (.int k y)), .d (.v (.int k z)), .d (.v (.int k u))] e0 (.d (.v (.int k (mx2 (mx2 (mx2 x y) z) u)))) :=
  does_val fun o w F ρ ev ho _ hx => by
    have hops : Op.operands (.call { callee := .builtin .max, args := #[a, b, c, d], argTypes := ts }) = #[a, b, c, d] := by simp [Op.operands, Call.operands]
    rw [hops] at hx
    have hx : RAs w F ρ [.d (.v (.int k x)), .d (.v (.int k y)), .d (.v (.int k z)), .d (.v (.int k u))] [ev a, ev b, ev c, ev d] := by simpa using hx
    cases hx with | cons h1 hx =>
    cases hx with | cons h2 hx =>
    cases hx with | cons h3 hx =>
    cases hx with | cons h4 hx =>
    have h1 := h1.v_out
    have h2 := h2.v_out
    have h3 := h3.v_out
    have h4 := h4.v_out
    exact ⟨_, by simp [execOp, ho, resolve, invoke, builtin, h1, h2, h3, h4, Builtin.max_, Builtin.max2, mx2], .d (.v _)⟩
end
theorem slack_sat (a r : Int) (ha : farA a = true) (hr : okRate r = true) : Sat Try.prog 31 [iA a, iA r] [] (.tup [iA (slackZ a r), iA 0]) [] :=
  .of_calls (by repeat constructor) (by repeat constructor) fun w => slack_ok a r w ha hr
/-! ### plain -/
theorem ratN_floor (a b c : Nat) (hc : 0 < c) : ratN a b c false * c ≤ a * b := by
  unfold ratN
  simp
  exact Nat.div_mul_le_self _ _
theorem ratN_ceil (a b c : Nat) (hc : 0 < c) : a * b ≤ ratN a b c true * c := by
  rw [ratN_up _ _ _ hc]
  have h := Nat.div_add_mod (a * b + (c - 1)) c
  have hm := Nat.mod_lt (a * b + (c - 1)) hc
  rw [Nat.mul_comm ((a * b + (c - 1)) / c) c]
  omega
theorem slack_ge (far r : Int) (hr : okRate r = true) (h0 : 0 ≤ far) : far * r ≤ slackZ far r * (1000000 - r) := by
  have hr := of_decide_eq_true hr
  unfold slackZ
  have h := ratN_ceil far.toNat r.toNat (1000000 - r).toNat (by omega)
  have h' : ((far.toNat * r.toNat : Nat) : Int) ≤ ((ratN far.toNat r.toNat (1000000 - r).toNat true * (1000000 - r).toNat : Nat) : Int) := Int.ofNat_le.2 h
  rw [Int.natCast_mul, Int.natCast_mul, Int.toNat_of_nonneg h0, Int.toNat_of_nonneg hr.1, Int.toNat_of_nonneg (by omega)] at h'
  exact h'
theorem low_gap (v far r : Int) (hr : okRate r = true) (h1 : v ≤ far) (h2 : -v ≤ far) : v - lowZ v r ≤ slackZ far r + 2 := by
  have hs := slack_ge far r hr (by omega)
  have hr' := of_decide_eq_true hr
  have hS : 0 ≤ slackZ far r := by unfold slackZ; omega
  generalize slackZ far r = S at *
  have hSr : 0 ≤ S * r := Int.mul_nonneg hS hr'.1
  have e1 : S * (1000000 - r) = S * 1000000 - S * r := Int.mul_sub ..
  unfold lowZ
  split
  · rename_i hv
    have h := ratN_ceil (v - 1).toNat 1000000 (1000000 + r).toNat (by omega)
    have h' : (((v - 1).toNat * 1000000 : Nat) : Int) ≤ ((ratN (v - 1).toNat 1000000 (1000000 + r).toNat true * (1000000 + r).toNat : Nat) : Int) := Int.ofNat_le.2 h
    rw [Int.natCast_mul, Int.natCast_mul, Int.toNat_of_nonneg (by omega), Int.toNat_of_nonneg (a := 1000000 + r) (by omega)] at h'
    generalize (ratN (v - 1).toNat 1000000 (1000000 + r).toNat true : Int) = q at *
    have hq : v - q ≤ S + 2 := by
      refine Int.not_lt.1 fun hlt => ?_
      have hk : 0 ≤ (v - q - S - 3) * (1000000 + r) := Int.mul_nonneg (by omega) (by omega)
      have hvr : v * r ≤ far * r := Int.mul_le_mul_of_nonneg_right h1 hr'.1
      have e2 : (v - q - S - 3) * r = v * r - q * r - S * r - 3 * r := by rw [Int.sub_mul, Int.sub_mul, Int.sub_mul]
      rw [Int.mul_add] at hk
      have e3 : q * (1000000 + r) = q * 1000000 + q * r := Int.mul_add ..
      omega
    omega
  · rename_i hv
    have h := ratN_floor (1 - v).toNat 1000000 (1000000 - r).toNat (by omega)
    have h' : ((ratN (1 - v).toNat 1000000 (1000000 - r).toNat false * (1000000 - r).toNat : Nat) : Int) ≤ (((1 - v).toNat * 1000000 : Nat) : Int) := Int.ofNat_le.2 h
    rw [Int.natCast_mul, Int.natCast_mul, Int.toNat_of_nonneg (a := 1 - v) (by omega), Int.toNat_of_nonneg (a := 1000000 - r) (by omega)] at h'
    generalize (ratN (1 - v).toNat 1000000 (1000000 - r).toNat false : Int) = q at *
    refine Int.not_lt.1 fun hlt => ?_
    have hk : 0 ≤ (v + q - S - 3) * (1000000 - r) := Int.mul_nonneg (by omega) (by omega)
    have hvr : -v * r ≤ far * r := Int.mul_le_mul_of_nonneg_right h2 hr'.1
    have e0 : -v * r = -(v * r) := Int.neg_mul ..
    have e2 : (v + q - S - 3) * r = v * r + q * r - S * r - 3 * r := by rw [Int.sub_mul, Int.sub_mul, Int.add_mul]
    rw [Int.mul_sub] at hk
    have e3 : q * (1000000 - r) = q * 1000000 - q * r := Int.mul_sub ..
    omega
def farZ (x : Smp) (stamp : Int) : Int := mx2 (mx2 (mx2 (stamp - x.got) (x.got - stamp)) (stamp - x.sent)) (x.sent - stamp)
theorem far_out (x : Smp) (stamp : Int) : stamp - x.got ≤ farZ x stamp ∧ x.got - stamp ≤ farZ x stamp ∧ stamp - x.sent ≤ farZ x stamp ∧ x.sent - stamp ≤ farZ x stamp ∧ ∀ b, stamp - x.got ≤ b → x.got - stamp ≤ b → stamp - x.sent ≤ b → x.sent - stamp ≤ b → farZ x stamp ≤ b := by
  unfold farZ mx2
  refine ⟨?_, ?_, ?_, ?_, fun b _ _ _ _ => ?_⟩ <;> (split <;> split <;> split <;> omega)
theorem width_plain (x : Smp) (stamp rho : Int) (h : (atR x stamp rho).2 = 0) : (atR x stamp rho).1.2 - (atR x stamp rho).1.1 ≤ tripZ x + 2 * slackZ (farZ x stamp) rho + 4 := by
  obtain ⟨h1, _, hr, _, e⟩ := atR_out h
  rw [e]
  unfold tripZ atLo atHi highZ
  rw [if_pos h1]
  have hf := far_out x stamp
  have g1 := low_gap (stamp - x.got) (farZ x stamp) rho hr (by omega) (by omega)
  have g2 := low_gap (-(stamp - x.sent)) (farZ x stamp) rho hr (by omega) (by omega)
  omega
theorem width_in {s : CSt} {x : Smp} {stamp : Int} (h : (atC s stamp).2 = 0) (hx : x ∈ s.list) : (atR x stamp s.rho).2 = 0 ∧ withB (atC s stamp).1 (atR x stamp s.rho).1 = true ∧ (atC s stamp).1.2 - (atC s stamp).1.1 ≤ tripZ x + 2 * slackZ (farZ x stamp) s.rho + 4 := by
  obtain ⟨_, _, hf, e⟩ := atC_zero h
  have h0 : (atR x stamp s.rho).2 = 0 := by have := List.find?_eq_none.1 hf x hx; simpa using this
  rw [e] at h ⊢
  obtain ⟨_, h2, e2⟩ := meetR_ok h
  have hm := meetL_le allG (s.list.map fun x => (atR x stamp s.rho).1) (List.mem_map.2 ⟨x, hx, rfl⟩)
  have hw := width_plain x stamp s.rho h0
  rw [e2]
  refine ⟨h0, ?_, by omega⟩
  unfold withB
  rw [h2]
  simp
  exact hm
end Go.Proofs.Ytgidaifoiljgoaa
/- DriftRises, by conditions. -/
namespace Go.Proofs.Ytgidaifoiljgoaa
set_option linter.unusedSimpArgs false
set_option linter.unusedVariables false
open Go.RowKit
set_option maxRecDepth 100000
theorem lowZ_le (x r : Int) (hr : okRate r = true) : lowZ x r ≤ x := by
  have hr := of_decide_eq_true hr
  unfold lowZ
  by_cases h : 0 < x
  · rw [if_pos h]
    have h1 : ratN (x - 1).toNat 1000000 (1000000 + r).toNat true ≤ (x - 1).toNat := by
      rw [ratN_up _ _ _ (by omega)]
      generalize (x - 1).toNat = a
      obtain ⟨c, hc, hc'⟩ : ∃ c : Nat, (1000000 + r).toNat = c ∧ 1000000 ≤ c := ⟨_, rfl, by omega⟩
      rw [hc]
      have h2 : a * 1000000 ≤ a * c := Nat.mul_le_mul_left a hc'
      have h3 : (a * 1000000 + (c - 1)) / c < a + 1 := by
        rw [Nat.div_lt_iff_lt_mul (by omega), Nat.add_mul]; omega
      omega
    omega
  · rw [if_neg h]
    have h1 : (1 - x).toNat ≤ ratN (1 - x).toNat 1000000 (1000000 - r).toNat false := by
      have h2 := (ratN_bounds (1 - x).toNat 1000000 (1000000 - r).toNat false).1
      refine Nat.le_trans ?_ h2
      generalize (1 - x).toNat = a
      obtain ⟨c, hc, hc', hc0⟩ : ∃ c : Nat, (1000000 - r).toNat = c ∧ c ≤ 1000000 ∧ 0 < c := ⟨_, rfl, by omega, by omega⟩
      rw [hc, Nat.le_div_iff_mul_le hc0]
      exact Nat.mul_le_mul_left a hc'
    omega
theorem slackZ_le (a r : Int) (hr : okRate r = true) (ha : 0 ≤ a) : 0 ≤ slackZ a r ∧ slackZ a r ≤ a + 1 := by
  have hr := of_decide_eq_true hr
  unfold slackZ
  have h1 := (ratN_bounds a.toNat r.toNat (1000000 - r).toNat true).2
  have h2 : a.toNat * r.toNat / (1000000 - r).toNat ≤ a.toNat := by
    have h3 : a.toNat * r.toNat ≤ a.toNat * (1000000 - r).toNat := Nat.mul_le_mul_left _ (by omega)
    have h4 := Nat.div_le_div_right (c := (1000000 - r).toNat) h3
    rwa [Nat.mul_div_cancel _ (by omega)] at h4
  omega
theorem drises_sat (x y r : Int) (hx : in64 x) (hy : in64 y) : Sat Try.prog 8 [iA x, iA y, iA r] [] (bA true) [] := by
  by_cases hxr : nearX x = true ∧ okRate r = true
  case neg =>
    have h : nearX x = false ∨ okRate r = false := by
      rcases h1 : nearX x with _ | _ <;> rcases h2 : okRate r with _ | _ <;> simp_all
    have a1 := lowD_err x r hx h
    have a2 := highD_err x r hx h
    refine sat_of_vc (T := tiOf Try.prog) (E := E0) Try.func8 rfl rfl hE0 hm0 rfl ?_
    conv => whnf
    repeat (any_goals (first
      | exact True.intro
      | (refine And.intro (fun _ => ?_) tf; conv => whnf)
      | (refine And.intro ft (fun _ => ?_); conv => whnf)
      | (refine And.intro (by kernel_rfl) ?_; conv => whnf)
      | (refine And.intro (by decide) ?_; conv => whnf)
      | (refine And.intro (fun _ => ?_) (fun h => absurd h (by decide)); conv => whnf)
      | (refine And.intro (fun h => absurd h (by decide)) (fun _ => ?_); conv => whnf)
      | (refine And.intro (fun _ => ?_) (fun _ => ?_) <;> conv => whnf)
      | (refine ⟨_, _, alive04_sat.pu rfl rfl, ?_⟩; conv => whnf)
      | (refine ⟨_, _, a1.pu rfl rfl, ?_⟩; conv => whnf)
      | (refine ⟨_, _, a2.pu rfl rfl, ?_⟩; conv => whnf)))
    all_goals try (exfalso; simp only [decide_eq_true_eq, decide_eq_false_iff_not, Bool.not_eq_true', Bool.not_eq_false', Bool.not_eq_true, Bool.not_eq_false, beq_iff_eq, bne_iff_ne, beq_eq_false_iff_ne, bne_eq_false_iff_eq, ne_eq, Decidable.not_not] at *; first | omega | contradiction | (simp_all; done) | (simp_all; omega))
    all_goals try (refine Or.inl ?_; conv => whnf)
    repeat (any_goals (first
      | exact True.intro
      | (refine And.intro (fun _ => ?_) tf; conv => whnf)
      | (refine And.intro ft (fun _ => ?_); conv => whnf)
      | (refine And.intro (by kernel_rfl) ?_; conv => whnf)
      | (refine And.intro (by decide) ?_; conv => whnf)
      | (refine And.intro (fun _ => ?_) (fun h => absurd h (by decide)); conv => whnf)
      | (refine And.intro (fun h => absurd h (by decide)) (fun _ => ?_); conv => whnf)
      | (refine And.intro (fun _ => ?_) (fun _ => ?_) <;> conv => whnf)
      | (refine ⟨_, _, alive04_sat.pu rfl rfl, ?_⟩; conv => whnf)
      | (refine ⟨_, _, a1.pu rfl rfl, ?_⟩; conv => whnf)
      | (refine ⟨_, _, a2.pu rfl rfl, ?_⟩; conv => whnf)))
    all_goals try (exfalso; simp only [decide_eq_true_eq, decide_eq_false_iff_not, Bool.not_eq_true', Bool.not_eq_false', Bool.not_eq_true, Bool.not_eq_false, beq_iff_eq, bne_iff_ne, beq_eq_false_iff_ne, bne_eq_false_iff_eq, ne_eq, Decidable.not_not] at *; first | omega | contradiction | (simp_all; done) | (simp_all; omega))
    all_goals try (refine Or.inl ?_; conv => whnf)
    repeat (any_goals (first
      | exact True.intro
      | (refine And.intro (fun _ => ?_) tf; conv => whnf)
      | (refine And.intro ft (fun _ => ?_); conv => whnf)
      | (refine And.intro (by kernel_rfl) ?_; conv => whnf)
      | (refine And.intro (by decide) ?_; conv => whnf)
      | (refine And.intro (fun _ => ?_) (fun h => absurd h (by decide)); conv => whnf)
      | (refine And.intro (fun h => absurd h (by decide)) (fun _ => ?_); conv => whnf)
      | (refine And.intro (fun _ => ?_) (fun _ => ?_) <;> conv => whnf)
      | (refine ⟨_, _, alive04_sat.pu rfl rfl, ?_⟩; conv => whnf)
      | (refine ⟨_, _, a1.pu rfl rfl, ?_⟩; conv => whnf)
      | (refine ⟨_, _, a2.pu rfl rfl, ?_⟩; conv => whnf)))
    all_goals try (exfalso; simp only [decide_eq_true_eq, decide_eq_false_iff_not, Bool.not_eq_true', Bool.not_eq_false', Bool.not_eq_true, Bool.not_eq_false, beq_iff_eq, bne_iff_ne, beq_eq_false_iff_ne, bne_eq_false_iff_eq, ne_eq, Decidable.not_not] at *; first | omega | contradiction | (simp_all; done) | (simp_all; omega))
    all_goals refine ⟨[], ?_⟩
    repeat (any_goals (first | exact True.intro | exact rfl | with_reducible_and_instances rfl | exact (by kernel_rfl) | refine And.intro ?_ ?_))
    all_goals conv => whnf
  obtain ⟨hn, hr⟩ := hxr
  have hx2 := of_decide_eq_true hn
  have hn' : nearX (-x) = true := decide_eq_true (by omega)
  have a1 := lowD_sat x r hn hr
  have a2 := highD_sat x r hn hr
  have hneg : IntKind.i64.wrap (0 - x) = -x := by rw [wi (by omega) (by omega)]; omega
  obtain ⟨m, hm⟩ : ∃ m : Int, m = (if IntKind.i64.wrap (0 - x) > x then IntKind.i64.wrap (0 - x) else x) := ⟨_, rfl⟩
  have hm2 : x ≤ m ∧ -x ≤ m ∧ m ≤ 4611686018427387904 ∧ 0 ≤ m := by rw [hm, hneg]; split <;> omega
  have sl : Sat Try.prog 31 [iA (if IntKind.i64.wrap (0 - x) > x then IntKind.i64.wrap (0 - x) else x), iA r] [] (.tup [iA (slackZ m r), iA 0]) [] := by
    rw [← hm]; exact slackD_sat m r (decide_eq_true (by omega)) hr
  have g1 := low_gap x m r hr (by omega) (by omega)
  have g2 := low_gap (-x) m r hr (by omega) (by omega)
  have l1 := lowZ_le x r hr
  have l2 := lowZ_le (-x) r hr
  have sb := slackZ_le m r hr (by omega)
  clear hm hneg
  unfold highZ at a2
  have mono1 := fun h => lowZ_mono x y r hr h
  have mono2 := fun h => lowZ_mono (-y) (-x) r hr h
  generalize slackZ m r = s at *
  generalize lowZ x r = a at *
  generalize lowZ (-x) r = b at *
  have w1 : IntKind.i64.wrap (x - a) = x - a := wi (by omega) (by omega)
  have w2 : IntKind.i64.wrap (s + 2) = s + 2 := wi (by omega) (by omega)
  have w3 : IntKind.i64.wrap (-b - x) = -b - x := wi (by omega) (by omega)
  have w4 : IntKind.i64.wrap (x + 1) = x + 1 := wi (by omega) (by omega)
  have w5 : IntKind.i64.wrap (x - 1) = x - 1 := wi (by omega) (by omega)
  by_cases hny : nearX y = true
  · have c1 := lowD_sat y r hny hr
    have c2 := highD_sat y r hny hr
    unfold highZ at c2
    generalize lowZ y r = c at *
    generalize lowZ (-y) r = d at *
    refine sat_of_vc (T := tiOf Try.prog) (E := E0) Try.func8 rfl rfl hE0 hm0 rfl ?_
    conv => whnf
    repeat (any_goals (first
      | exact True.intro
      | (refine And.intro (fun _ => ?_) tf; conv => whnf)
      | (refine And.intro ft (fun _ => ?_); conv => whnf)
      | (refine And.intro (by kernel_rfl) ?_; conv => whnf)
      | (refine And.intro (by decide) ?_; conv => whnf)
      | (refine And.intro (fun _ => ?_) (fun h => absurd h (by decide)); conv => whnf)
      | (refine And.intro (fun h => absurd h (by decide)) (fun _ => ?_); conv => whnf)
      | (refine And.intro (fun _ => ?_) (fun _ => ?_) <;> conv => whnf)
      | (refine ⟨_, _, alive04_sat.pu rfl rfl, ?_⟩; conv => whnf)
      | (refine ⟨_, _, a1.pu rfl rfl, ?_⟩; conv => whnf)
      | (refine ⟨_, _, a2.pu rfl rfl, ?_⟩; conv => whnf)
      | (refine ⟨_, _, sl.pu rfl rfl, ?_⟩; conv => whnf)
      | (refine ⟨_, _, c1.pu rfl rfl, ?_⟩; conv => whnf)
      | (refine ⟨_, _, c2.pu rfl rfl, ?_⟩; conv => whnf)))
    all_goals try (exfalso; simp only [decide_eq_true_eq, decide_eq_false_iff_not, Bool.not_eq_true', Bool.not_eq_false', Bool.not_eq_true, Bool.not_eq_false, beq_iff_eq, bne_iff_ne, beq_eq_false_iff_ne, bne_eq_false_iff_eq, ne_eq, Decidable.not_not] at *; first | omega | contradiction | (simp_all; done) | (simp_all; omega))
    all_goals try (refine Or.inl ?_; conv => whnf)
    repeat (any_goals (first
      | exact True.intro
      | (refine And.intro (fun _ => ?_) tf; conv => whnf)
      | (refine And.intro ft (fun _ => ?_); conv => whnf)
      | (refine And.intro (by kernel_rfl) ?_; conv => whnf)
      | (refine And.intro (by decide) ?_; conv => whnf)
      | (refine And.intro (fun _ => ?_) (fun h => absurd h (by decide)); conv => whnf)
      | (refine And.intro (fun h => absurd h (by decide)) (fun _ => ?_); conv => whnf)
      | (refine And.intro (fun _ => ?_) (fun _ => ?_) <;> conv => whnf)
      | (refine ⟨_, _, alive04_sat.pu rfl rfl, ?_⟩; conv => whnf)
      | (refine ⟨_, _, a1.pu rfl rfl, ?_⟩; conv => whnf)
      | (refine ⟨_, _, a2.pu rfl rfl, ?_⟩; conv => whnf)
      | (refine ⟨_, _, sl.pu rfl rfl, ?_⟩; conv => whnf)
      | (refine ⟨_, _, c1.pu rfl rfl, ?_⟩; conv => whnf)
      | (refine ⟨_, _, c2.pu rfl rfl, ?_⟩; conv => whnf)))
    all_goals try (exfalso; simp only [decide_eq_true_eq, decide_eq_false_iff_not, Bool.not_eq_true', Bool.not_eq_false', Bool.not_eq_true, Bool.not_eq_false, beq_iff_eq, bne_iff_ne, beq_eq_false_iff_ne, bne_eq_false_iff_eq, ne_eq, Decidable.not_not] at *; first | omega | contradiction | (simp_all; done) | (simp_all; omega))
    all_goals try (refine Or.inl ?_; conv => whnf)
    repeat (any_goals (first
      | exact True.intro
      | (refine And.intro (fun _ => ?_) tf; conv => whnf)
      | (refine And.intro ft (fun _ => ?_); conv => whnf)
      | (refine And.intro (by kernel_rfl) ?_; conv => whnf)
      | (refine And.intro (by decide) ?_; conv => whnf)
      | (refine And.intro (fun _ => ?_) (fun h => absurd h (by decide)); conv => whnf)
      | (refine And.intro (fun h => absurd h (by decide)) (fun _ => ?_); conv => whnf)
      | (refine And.intro (fun _ => ?_) (fun _ => ?_) <;> conv => whnf)
      | (refine ⟨_, _, alive04_sat.pu rfl rfl, ?_⟩; conv => whnf)
      | (refine ⟨_, _, a1.pu rfl rfl, ?_⟩; conv => whnf)
      | (refine ⟨_, _, a2.pu rfl rfl, ?_⟩; conv => whnf)
      | (refine ⟨_, _, sl.pu rfl rfl, ?_⟩; conv => whnf)
      | (refine ⟨_, _, c1.pu rfl rfl, ?_⟩; conv => whnf)
      | (refine ⟨_, _, c2.pu rfl rfl, ?_⟩; conv => whnf)))
    all_goals try (exfalso; simp only [decide_eq_true_eq, decide_eq_false_iff_not, Bool.not_eq_true', Bool.not_eq_false', Bool.not_eq_true, Bool.not_eq_false, beq_iff_eq, bne_iff_ne, beq_eq_false_iff_ne, bne_eq_false_iff_eq, ne_eq, Decidable.not_not] at *; first | omega | contradiction | (simp_all; done) | (simp_all; omega))
    all_goals try (refine Or.inl ?_; conv => whnf)
    repeat (any_goals (first
      | exact True.intro
      | (refine And.intro (fun _ => ?_) tf; conv => whnf)
      | (refine And.intro ft (fun _ => ?_); conv => whnf)
      | (refine And.intro (by kernel_rfl) ?_; conv => whnf)
      | (refine And.intro (by decide) ?_; conv => whnf)
      | (refine And.intro (fun _ => ?_) (fun h => absurd h (by decide)); conv => whnf)
      | (refine And.intro (fun h => absurd h (by decide)) (fun _ => ?_); conv => whnf)
      | (refine And.intro (fun _ => ?_) (fun _ => ?_) <;> conv => whnf)
      | (refine ⟨_, _, alive04_sat.pu rfl rfl, ?_⟩; conv => whnf)
      | (refine ⟨_, _, a1.pu rfl rfl, ?_⟩; conv => whnf)
      | (refine ⟨_, _, a2.pu rfl rfl, ?_⟩; conv => whnf)
      | (refine ⟨_, _, sl.pu rfl rfl, ?_⟩; conv => whnf)
      | (refine ⟨_, _, c1.pu rfl rfl, ?_⟩; conv => whnf)
      | (refine ⟨_, _, c2.pu rfl rfl, ?_⟩; conv => whnf)))
    all_goals try (exfalso; simp only [decide_eq_true_eq, decide_eq_false_iff_not, Bool.not_eq_true', Bool.not_eq_false', Bool.not_eq_true, Bool.not_eq_false, beq_iff_eq, bne_iff_ne, beq_eq_false_iff_ne, bne_eq_false_iff_eq, ne_eq, Decidable.not_not] at *; first | omega | contradiction | (simp_all; done) | (simp_all; omega))
    all_goals try (refine Or.inl ?_; conv => whnf)
    repeat (any_goals (first
      | exact True.intro
      | (refine And.intro (fun _ => ?_) tf; conv => whnf)
      | (refine And.intro ft (fun _ => ?_); conv => whnf)
      | (refine And.intro (by kernel_rfl) ?_; conv => whnf)
      | (refine And.intro (by decide) ?_; conv => whnf)
      | (refine And.intro (fun _ => ?_) (fun h => absurd h (by decide)); conv => whnf)
      | (refine And.intro (fun h => absurd h (by decide)) (fun _ => ?_); conv => whnf)
      | (refine And.intro (fun _ => ?_) (fun _ => ?_) <;> conv => whnf)
      | (refine ⟨_, _, alive04_sat.pu rfl rfl, ?_⟩; conv => whnf)
      | (refine ⟨_, _, a1.pu rfl rfl, ?_⟩; conv => whnf)
      | (refine ⟨_, _, a2.pu rfl rfl, ?_⟩; conv => whnf)
      | (refine ⟨_, _, sl.pu rfl rfl, ?_⟩; conv => whnf)
      | (refine ⟨_, _, c1.pu rfl rfl, ?_⟩; conv => whnf)
      | (refine ⟨_, _, c2.pu rfl rfl, ?_⟩; conv => whnf)))
    · all_goals refine ⟨[], ?_⟩
      repeat (any_goals (first | exact True.intro | exact rfl | with_reducible_and_instances rfl | exact (by kernel_rfl) | refine And.intro ?_ ?_))
      all_goals conv => whnf
    · have q := of_decide_eq_false ‹decide (y < x) = false›
      have q2 := mono2 (by omega)
      rw [decide_eq_true (show -d ≥ -b by omega)]
      all_goals refine ⟨[], ?_⟩
      repeat (any_goals (first | exact True.intro | exact rfl | with_reducible_and_instances rfl | exact (by kernel_rfl) | refine And.intro ?_ ?_))
      all_goals conv => whnf
    · exfalso
      have q := of_decide_eq_false ‹decide (y < x) = false›
      have q1 := mono1 (by omega)
      have q2 := of_decide_eq_false ‹decide (c ≥ a) = false›
      omega
  · have hny : nearX y = false := by simpa using hny
    have c1 := lowD_err y r hy (.inl hny)
    have c2 := highD_err y r hy (.inl hny)
    clear mono1 mono2
    refine sat_of_vc (T := tiOf Try.prog) (E := E0) Try.func8 rfl rfl hE0 hm0 rfl ?_
    conv => whnf
    repeat (any_goals (first
      | exact True.intro
      | (refine And.intro (fun _ => ?_) tf; conv => whnf)
      | (refine And.intro ft (fun _ => ?_); conv => whnf)
      | (refine And.intro (by kernel_rfl) ?_; conv => whnf)
      | (refine And.intro (by decide) ?_; conv => whnf)
      | (refine And.intro (fun _ => ?_) (fun h => absurd h (by decide)); conv => whnf)
      | (refine And.intro (fun h => absurd h (by decide)) (fun _ => ?_); conv => whnf)
      | (refine And.intro (fun _ => ?_) (fun _ => ?_) <;> conv => whnf)
      | (refine ⟨_, _, alive04_sat.pu rfl rfl, ?_⟩; conv => whnf)
      | (refine ⟨_, _, a1.pu rfl rfl, ?_⟩; conv => whnf)
      | (refine ⟨_, _, a2.pu rfl rfl, ?_⟩; conv => whnf)
      | (refine ⟨_, _, sl.pu rfl rfl, ?_⟩; conv => whnf)
      | (refine ⟨_, _, c1.pu rfl rfl, ?_⟩; conv => whnf)
      | (refine ⟨_, _, c2.pu rfl rfl, ?_⟩; conv => whnf)))
    all_goals try (exfalso; simp only [decide_eq_true_eq, decide_eq_false_iff_not, Bool.not_eq_true', Bool.not_eq_false', Bool.not_eq_true, Bool.not_eq_false, beq_iff_eq, bne_iff_ne, beq_eq_false_iff_ne, bne_eq_false_iff_eq, ne_eq, Decidable.not_not] at *; first | omega | contradiction | (simp_all; done) | (simp_all; omega))
    all_goals try (refine Or.inl ?_; conv => whnf)
    repeat (any_goals (first
      | exact True.intro
      | (refine And.intro (fun _ => ?_) tf; conv => whnf)
      | (refine And.intro ft (fun _ => ?_); conv => whnf)
      | (refine And.intro (by kernel_rfl) ?_; conv => whnf)
      | (refine And.intro (by decide) ?_; conv => whnf)
      | (refine And.intro (fun _ => ?_) (fun h => absurd h (by decide)); conv => whnf)
      | (refine And.intro (fun h => absurd h (by decide)) (fun _ => ?_); conv => whnf)
      | (refine And.intro (fun _ => ?_) (fun _ => ?_) <;> conv => whnf)
      | (refine ⟨_, _, alive04_sat.pu rfl rfl, ?_⟩; conv => whnf)
      | (refine ⟨_, _, a1.pu rfl rfl, ?_⟩; conv => whnf)
      | (refine ⟨_, _, a2.pu rfl rfl, ?_⟩; conv => whnf)
      | (refine ⟨_, _, sl.pu rfl rfl, ?_⟩; conv => whnf)
      | (refine ⟨_, _, c1.pu rfl rfl, ?_⟩; conv => whnf)
      | (refine ⟨_, _, c2.pu rfl rfl, ?_⟩; conv => whnf)))
    all_goals try (exfalso; simp only [decide_eq_true_eq, decide_eq_false_iff_not, Bool.not_eq_true', Bool.not_eq_false', Bool.not_eq_true, Bool.not_eq_false, beq_iff_eq, bne_iff_ne, beq_eq_false_iff_ne, bne_eq_false_iff_eq, ne_eq, Decidable.not_not] at *; first | omega | contradiction | (simp_all; done) | (simp_all; omega))
    all_goals try (refine Or.inl ?_; conv => whnf)
    repeat (any_goals (first
      | exact True.intro
      | (refine And.intro (fun _ => ?_) tf; conv => whnf)
      | (refine And.intro ft (fun _ => ?_); conv => whnf)
      | (refine And.intro (by kernel_rfl) ?_; conv => whnf)
      | (refine And.intro (by decide) ?_; conv => whnf)
      | (refine And.intro (fun _ => ?_) (fun h => absurd h (by decide)); conv => whnf)
      | (refine And.intro (fun h => absurd h (by decide)) (fun _ => ?_); conv => whnf)
      | (refine And.intro (fun _ => ?_) (fun _ => ?_) <;> conv => whnf)
      | (refine ⟨_, _, alive04_sat.pu rfl rfl, ?_⟩; conv => whnf)
      | (refine ⟨_, _, a1.pu rfl rfl, ?_⟩; conv => whnf)
      | (refine ⟨_, _, a2.pu rfl rfl, ?_⟩; conv => whnf)
      | (refine ⟨_, _, sl.pu rfl rfl, ?_⟩; conv => whnf)
      | (refine ⟨_, _, c1.pu rfl rfl, ?_⟩; conv => whnf)
      | (refine ⟨_, _, c2.pu rfl rfl, ?_⟩; conv => whnf)))
    all_goals try (exfalso; simp only [decide_eq_true_eq, decide_eq_false_iff_not, Bool.not_eq_true', Bool.not_eq_false', Bool.not_eq_true, Bool.not_eq_false, beq_iff_eq, bne_iff_ne, beq_eq_false_iff_ne, bne_eq_false_iff_eq, ne_eq, Decidable.not_not] at *; first | omega | contradiction | (simp_all; done) | (simp_all; omega))
    all_goals try (refine Or.inl ?_; conv => whnf)
    repeat (any_goals (first
      | exact True.intro
      | (refine And.intro (fun _ => ?_) tf; conv => whnf)
      | (refine And.intro ft (fun _ => ?_); conv => whnf)
      | (refine And.intro (by kernel_rfl) ?_; conv => whnf)
      | (refine And.intro (by decide) ?_; conv => whnf)
      | (refine And.intro (fun _ => ?_) (fun h => absurd h (by decide)); conv => whnf)
      | (refine And.intro (fun h => absurd h (by decide)) (fun _ => ?_); conv => whnf)
      | (refine And.intro (fun _ => ?_) (fun _ => ?_) <;> conv => whnf)
      | (refine ⟨_, _, alive04_sat.pu rfl rfl, ?_⟩; conv => whnf)
      | (refine ⟨_, _, a1.pu rfl rfl, ?_⟩; conv => whnf)
      | (refine ⟨_, _, a2.pu rfl rfl, ?_⟩; conv => whnf)
      | (refine ⟨_, _, sl.pu rfl rfl, ?_⟩; conv => whnf)
      | (refine ⟨_, _, c1.pu rfl rfl, ?_⟩; conv => whnf)
      | (refine ⟨_, _, c2.pu rfl rfl, ?_⟩; conv => whnf)))
    all_goals try (exfalso; simp only [decide_eq_true_eq, decide_eq_false_iff_not, Bool.not_eq_true', Bool.not_eq_false', Bool.not_eq_true, Bool.not_eq_false, beq_iff_eq, bne_iff_ne, beq_eq_false_iff_ne, bne_eq_false_iff_eq, ne_eq, Decidable.not_not] at *; first | omega | contradiction | (simp_all; done) | (simp_all; omega))
    all_goals try (refine Or.inl ?_; conv => whnf)
    repeat (any_goals (first
      | exact True.intro
      | (refine And.intro (fun _ => ?_) tf; conv => whnf)
      | (refine And.intro ft (fun _ => ?_); conv => whnf)
      | (refine And.intro (by kernel_rfl) ?_; conv => whnf)
      | (refine And.intro (by decide) ?_; conv => whnf)
      | (refine And.intro (fun _ => ?_) (fun h => absurd h (by decide)); conv => whnf)
      | (refine And.intro (fun h => absurd h (by decide)) (fun _ => ?_); conv => whnf)
      | (refine And.intro (fun _ => ?_) (fun _ => ?_) <;> conv => whnf)
      | (refine ⟨_, _, alive04_sat.pu rfl rfl, ?_⟩; conv => whnf)
      | (refine ⟨_, _, a1.pu rfl rfl, ?_⟩; conv => whnf)
      | (refine ⟨_, _, a2.pu rfl rfl, ?_⟩; conv => whnf)
      | (refine ⟨_, _, sl.pu rfl rfl, ?_⟩; conv => whnf)
      | (refine ⟨_, _, c1.pu rfl rfl, ?_⟩; conv => whnf)
      | (refine ⟨_, _, c2.pu rfl rfl, ?_⟩; conv => whnf)))
    all_goals refine ⟨[], ?_⟩
    repeat (any_goals (first | exact True.intro | exact rfl | with_reducible_and_instances rfl | exact (by kernel_rfl) | refine And.intro ?_ ?_))
    all_goals conv => whnf
theorem drises_law (H : Type) (enc : TypeId × Value → H) : LawWalk H enc Try.prog 8 Try.f8 :=
  lawWalk_of_sat (by kernel_rfl) fun args h => by
    obtain ⟨x, _, rfl, h1, h⟩ := h
    obtain ⟨y, _, rfl, h2, h⟩ := h
    obtain ⟨r, _, rfl, h3, h⟩ := h
    obtain rfl := h
    obtain ⟨x, rfl, hx⟩ := ty_i64 h1 Try.underlying2
    obtain ⟨y, rfl, hy⟩ := ty_i64 h2 Try.underlying2
    obtain ⟨r, rfl, _⟩ := ty_i64 h3 Try.underlying2
    exact drises_sat x y r hx hy
end Go.Proofs.Ytgidaifoiljgoaa
/- DriftSound, by conditions. -/
namespace Go.Proofs.Ytgidaifoiljgoaa
set_option linter.unusedSimpArgs false
set_option linter.unusedVariables false
open Go.RowKit Go.Sort
set_option maxRecDepth 100000
def upP (p q : Int × Int) : Prop := p.1 ≤ q.1 ∧ p.2 ≤ q.2 ∧ (q.1 = p.1 → q.2 = p.2)
theorem up_chain {l : List (Int × Int)} (h : OrdOK l) : ∀ (n i : Nat) (p q : Int × Int), (sorted cmpP l)[i]? = some p → (sorted cmpP l)[i + n + 1]? = some q → upP p q := by
  have adj : ∀ (j : Nat) p q, (sorted cmpP l)[j]? = some p → (sorted cmpP l)[j + 1]? = some q → upP p q := fun j p q hp hq => by
    have h1 := h.2 j p q hp hq
    obtain ⟨a1, rfl⟩ := List.getElem?_eq_some_iff.1 hp
    obtain ⟨a2, rfl⟩ := List.getElem?_eq_some_iff.1 hq
    have h2 := List.pairwise_iff_getElem.1 (sortedP l) j (j + 1) a1 a2 (by omega)
    unfold ltP at h2
    exact ⟨by omega, h1.1, h1.2⟩
  intro n
  induction n with
  | zero => intro i p q hp hq; exact adj i p q hp hq
  | succ n ih =>
    intro i p q hp hq
    have hlt := (List.getElem?_eq_some_iff.1 hq).1
    have hr := List.getElem?_eq_getElem (show i + n + 1 < (sorted cmpP l).length by omega)
    obtain ⟨b1, b2, b3⟩ := ih i p _ hp hr
    obtain ⟨c1, c2, c3⟩ := adj (i + n + 1) _ q hr hq
    exact ⟨by omega, by omega, fun e => by rw [c3 (by omega), b3 (by omega)]⟩
theorem low_up {x d r : Int} (hr : okRate r = true) (hx : 0 ≤ x) (hd : 0 ≤ d) (hz : d = 0 → x = 0) (h : x * 1000000 - d * (1000000 + r) ≤ 1000000) : lowZ x r ≤ d := by
  have hr := of_decide_eq_true hr
  by_cases h0 : 0 < x
  · unfold lowZ
    rw [if_pos h0]
    have h1 : ratN (x - 1).toNat 1000000 (1000000 + r).toNat true ≤ d.toNat := by
      rw [ratN_up _ _ _ (by omega)]
      obtain ⟨c, hc, hc0⟩ : ∃ c : Nat, (1000000 + r).toNat = c ∧ 0 < c := ⟨_, rfl, by omega⟩
      rw [hc]
      have h2 : (x - 1).toNat * 1000000 ≤ d.toNat * c := by
        have e1 : ((d.toNat * c : Nat) : Int) = d * (1000000 + r) := by
          rw [Int.natCast_mul, ← hc, Int.toNat_of_nonneg hd, Int.toNat_of_nonneg (by omega)]
        omega
      have h3 : ((x - 1).toNat * 1000000 + (c - 1)) / c < d.toNat + 1 := by
        rw [Nat.div_lt_iff_lt_mul hc0, Nat.add_mul]; omega
      omega
    have : d ≠ 0 := fun e => by have := hz e; omega
    omega
  · have : lowZ x r ≤ x := lowZ_le x r (decide_eq_true hr)
    omega
theorem high_up {x d r : Int} (hr : okRate r = true) (hx : 0 ≤ x) (hd : 0 ≤ d) (h : d * (1000000 - r) - x * 1000000 ≤ 1000000) : d ≤ highZ x r := by
  have hr := of_decide_eq_true hr
  unfold highZ lowZ
  rw [if_neg (by omega), Int.neg_neg, show (1 - -x) = 1 + x by omega]
  have h1 : d.toNat ≤ ratN (1 + x).toNat 1000000 (1000000 - r).toNat false := by
    refine Nat.le_trans ?_ (ratN_bounds (1 + x).toNat 1000000 (1000000 - r).toNat false).1
    obtain ⟨c, hc, hc0⟩ : ∃ c : Nat, (1000000 - r).toNat = c ∧ 0 < c := ⟨_, rfl, by omega⟩
    rw [hc, Nat.le_div_iff_mul_le hc0]
    have e1 : ((d.toNat * c : Nat) : Int) = d * (1000000 - r) := by
      rw [Int.natCast_mul, ← hc, Int.toNat_of_nonneg hd, Int.toNat_of_nonneg (by omega)]
    omega
  omega
theorem bounds_up {l : List (Int × Int)} {r : Int} (h : HonOK r l) {i n : Nat} {p q : Int × Int} (hp : (sorted cmpP l)[i]? = some p) (hq : (sorted cmpP l)[i + n + 1]? = some q) : lowZ (q.2 - p.2) r ≤ q.1 - p.1 ∧ q.1 - p.1 ≤ highZ (q.2 - p.2) r := by
  obtain ⟨h1, h2, h3⟩ := h
  have h3 := of_decide_eq_true h3
  obtain ⟨u1, u2, u3⟩ := up_chain h2 n i p q hp hq
  obtain ⟨a1, rfl⟩ := List.getElem?_eq_some_iff.1 hp
  obtain ⟨a2, rfl⟩ := List.getElem?_eq_some_iff.1 hq
  obtain ⟨k1, k2⟩ := List.pairwise_iff_getElem.1 h3 i (i + n + 1) a1 a2 (by omega)
  generalize (sorted cmpP l)[i] = p at *
  generalize (sorted cmpP l)[i + n + 1] = q at *
  unfold ahZ at k1
  unfold beZ at k2
  have e1 : (q.1 - p.1) * (1000000 + r) = q.1 * (1000000 + r) - p.1 * (1000000 + r) := Int.sub_mul ..
  have e2 : (q.1 - p.1) * (1000000 - r) = q.1 * (1000000 - r) - p.1 * (1000000 - r) := Int.sub_mul ..
  exact ⟨low_up h1 (by omega) (by omega) (fun e => by have := u3 (by omega); omega) (by omega), high_up h1 (by omega) (by omega) (by omega)⟩
theorem bounds_all {l : List (Int × Int)} {r : Int} (h : HonOK r l) {p q : Int × Int} (hp : p ∈ l) (hq : q ∈ l) : lowZ (q.2 - p.2) r ≤ q.1 - p.1 ∧ q.1 - p.1 ≤ highZ (q.2 - p.2) r := by
  obtain ⟨i, hi⟩ := List.mem_iff_getElem?.1 ((sorted_perm cmpP l).mem_iff.2 hp)
  obtain ⟨j, hj⟩ := List.mem_iff_getElem?.1 ((sorted_perm cmpP l).mem_iff.2 hq)
  rcases Nat.lt_trichotomy i j with c | c | c
  · obtain ⟨n, rfl⟩ : ∃ n, j = i + n + 1 := ⟨j - i - 1, by omega⟩
    exact bounds_up h hi hj
  · subst c
    rw [hi] at hj; injection hj with hj; subst hj
    have := lowZ_le 0 r h.1
    unfold highZ
    rw [Int.sub_self, Int.sub_self, Int.neg_zero]
    omega
  · obtain ⟨n, rfl⟩ : ∃ n, i = j + n + 1 := ⟨i - j - 1, by omega⟩
    have hb := bounds_up h hj hi
    unfold highZ at hb ⊢
    rw [show -(p.2 - q.2) = q.2 - p.2 by omega] at hb
    rw [show -(q.2 - p.2) = p.2 - q.2 by omega]
    omega
theorem dsound_sat (r : Int) (l : List (Int × Int)) : Sat Try.prog 9 [iA r, .d (.sl 2 (l.map gR))] [] (bA true) [] := by
  have hm : (l.map gR).length = l.length := List.length_map _
  by_cases h30 : 30 < l.length
  · refine sat_of_vc (T := tiOf Try.prog) (E := E0) Try.func9 rfl rfl hE0 hm0 rfl ?_
    conv => whnf
    repeat (any_goals (first
      | exact True.intro
      | (refine And.intro (fun _ => ?_) tf; conv => whnf)
      | (refine And.intro ft (fun _ => ?_); conv => whnf)
      | (refine And.intro (by kernel_rfl) ?_; conv => whnf)
      | (refine And.intro (by decide) ?_; conv => whnf)
      | (refine And.intro (fun _ => ?_) (fun h => absurd h (by decide)); conv => whnf)
      | (refine And.intro (fun h => absurd h (by decide)) (fun _ => ?_); conv => whnf)
      | (refine And.intro (fun _ => ?_) (fun _ => ?_) <;> conv => whnf)
      | (refine ⟨_, _, alive04_sat.pu rfl rfl, ?_⟩; conv => whnf)))
    all_goals try (exfalso; simp only [decide_eq_true_eq, decide_eq_false_iff_not, Bool.not_eq_true', Bool.not_eq_false', Bool.not_eq_true, Bool.not_eq_false, beq_iff_eq, bne_iff_ne, beq_eq_false_iff_ne, bne_eq_false_iff_eq, ne_eq, Decidable.not_not] at *; first | omega | contradiction | (simp_all; done) | (simp_all; omega))
    all_goals try (refine Or.inl ?_; conv => whnf)
    repeat (any_goals (first
      | exact True.intro
      | (refine And.intro (fun _ => ?_) tf; conv => whnf)
      | (refine And.intro ft (fun _ => ?_); conv => whnf)
      | (refine And.intro (by kernel_rfl) ?_; conv => whnf)
      | (refine And.intro (by decide) ?_; conv => whnf)
      | (refine And.intro (fun _ => ?_) (fun h => absurd h (by decide)); conv => whnf)
      | (refine And.intro (fun h => absurd h (by decide)) (fun _ => ?_); conv => whnf)
      | (refine And.intro (fun _ => ?_) (fun _ => ?_) <;> conv => whnf)
      | (refine ⟨_, _, alive04_sat.pu rfl rfl, ?_⟩; conv => whnf)))
    all_goals try (exfalso; simp only [decide_eq_true_eq, decide_eq_false_iff_not, Bool.not_eq_true', Bool.not_eq_false', Bool.not_eq_true, Bool.not_eq_false, beq_iff_eq, bne_iff_ne, beq_eq_false_iff_ne, bne_eq_false_iff_eq, ne_eq, Decidable.not_not] at *; first | omega | contradiction | (simp_all; done) | (simp_all; omega))
    all_goals try (refine Or.inl ?_; conv => whnf)
    repeat (any_goals (first
      | exact True.intro
      | (refine And.intro (fun _ => ?_) tf; conv => whnf)
      | (refine And.intro ft (fun _ => ?_); conv => whnf)
      | (refine And.intro (by kernel_rfl) ?_; conv => whnf)
      | (refine And.intro (by decide) ?_; conv => whnf)
      | (refine And.intro (fun _ => ?_) (fun h => absurd h (by decide)); conv => whnf)
      | (refine And.intro (fun h => absurd h (by decide)) (fun _ => ?_); conv => whnf)
      | (refine And.intro (fun _ => ?_) (fun _ => ?_) <;> conv => whnf)
      | (refine ⟨_, _, alive04_sat.pu rfl rfl, ?_⟩; conv => whnf)))
    all_goals try (exfalso; simp only [decide_eq_true_eq, decide_eq_false_iff_not, Bool.not_eq_true', Bool.not_eq_false', Bool.not_eq_true, Bool.not_eq_false, beq_iff_eq, bne_iff_ne, beq_eq_false_iff_ne, bne_eq_false_iff_eq, ne_eq, Decidable.not_not] at *; first | omega | contradiction | (simp_all; done) | (simp_all; omega))
    all_goals refine ⟨[], ?_⟩
    repeat (any_goals (first | exact True.intro | exact rfl | with_reducible_and_instances rfl | exact (by kernel_rfl) | refine And.intro ?_ ?_))
    all_goals conv => whnf
  by_cases hh : HonOK r l
  case neg =>
    have hn := honest_no r l (by omega) hh
    refine sat_of_vc (T := tiOf Try.prog) (E := E0) Try.func9 rfl rfl hE0 hm0 rfl ?_
    conv => whnf
    repeat (any_goals (first
      | exact True.intro
      | (refine And.intro (fun _ => ?_) tf; conv => whnf)
      | (refine And.intro ft (fun _ => ?_); conv => whnf)
      | (refine And.intro (by kernel_rfl) ?_; conv => whnf)
      | (refine And.intro (by decide) ?_; conv => whnf)
      | (refine And.intro (fun _ => ?_) (fun h => absurd h (by decide)); conv => whnf)
      | (refine And.intro (fun h => absurd h (by decide)) (fun _ => ?_); conv => whnf)
      | (refine And.intro (fun _ => ?_) (fun _ => ?_) <;> conv => whnf)
      | (refine ⟨_, _, alive04_sat.pu rfl rfl, ?_⟩; conv => whnf)
      | (refine ⟨_, _, hn.pu rfl rfl, ?_⟩; conv => whnf)))
    all_goals try (exfalso; simp only [decide_eq_true_eq, decide_eq_false_iff_not, Bool.not_eq_true', Bool.not_eq_false', Bool.not_eq_true, Bool.not_eq_false, beq_iff_eq, bne_iff_ne, beq_eq_false_iff_ne, bne_eq_false_iff_eq, ne_eq, Decidable.not_not] at *; first | omega | contradiction | (simp_all; done) | (simp_all; omega))
    all_goals try (refine Or.inl ?_; conv => whnf)
    repeat (any_goals (first
      | exact True.intro
      | (refine And.intro (fun _ => ?_) tf; conv => whnf)
      | (refine And.intro ft (fun _ => ?_); conv => whnf)
      | (refine And.intro (by kernel_rfl) ?_; conv => whnf)
      | (refine And.intro (by decide) ?_; conv => whnf)
      | (refine And.intro (fun _ => ?_) (fun h => absurd h (by decide)); conv => whnf)
      | (refine And.intro (fun h => absurd h (by decide)) (fun _ => ?_); conv => whnf)
      | (refine And.intro (fun _ => ?_) (fun _ => ?_) <;> conv => whnf)
      | (refine ⟨_, _, alive04_sat.pu rfl rfl, ?_⟩; conv => whnf)
      | (refine ⟨_, _, hn.pu rfl rfl, ?_⟩; conv => whnf)))
    all_goals try (exfalso; simp only [decide_eq_true_eq, decide_eq_false_iff_not, Bool.not_eq_true', Bool.not_eq_false', Bool.not_eq_true, Bool.not_eq_false, beq_iff_eq, bne_iff_ne, beq_eq_false_iff_ne, bne_eq_false_iff_eq, ne_eq, Decidable.not_not] at *; first | omega | contradiction | (simp_all; done) | (simp_all; omega))
    all_goals try (refine Or.inl ?_; conv => whnf)
    repeat (any_goals (first
      | exact True.intro
      | (refine And.intro (fun _ => ?_) tf; conv => whnf)
      | (refine And.intro ft (fun _ => ?_); conv => whnf)
      | (refine And.intro (by kernel_rfl) ?_; conv => whnf)
      | (refine And.intro (by decide) ?_; conv => whnf)
      | (refine And.intro (fun _ => ?_) (fun h => absurd h (by decide)); conv => whnf)
      | (refine And.intro (fun h => absurd h (by decide)) (fun _ => ?_); conv => whnf)
      | (refine And.intro (fun _ => ?_) (fun _ => ?_) <;> conv => whnf)
      | (refine ⟨_, _, alive04_sat.pu rfl rfl, ?_⟩; conv => whnf)
      | (refine ⟨_, _, hn.pu rfl rfl, ?_⟩; conv => whnf)))
    all_goals try (exfalso; simp only [decide_eq_true_eq, decide_eq_false_iff_not, Bool.not_eq_true', Bool.not_eq_false', Bool.not_eq_true, Bool.not_eq_false, beq_iff_eq, bne_iff_ne, beq_eq_false_iff_ne, bne_eq_false_iff_eq, ne_eq, Decidable.not_not] at *; first | omega | contradiction | (simp_all; done) | (simp_all; omega))
    all_goals refine ⟨[], ?_⟩
    repeat (any_goals (first | exact True.intro | exact rfl | with_reducible_and_instances rfl | exact (by kernel_rfl) | refine And.intro ?_ ?_))
    all_goals conv => whnf
  have hy := honest_yes r l (by omega) hh
  have hT := hh.2.1.1
  have hr := hh.1
  refine sat_of_vc (T := tiOf Try.prog) (E := E0) Try.func9 rfl rfl hE0 hm0 rfl ?_
  conv => whnf
  repeat (any_goals (first
    | exact True.intro
    | (refine Or.inl ?_; conv => whnf)
    | (refine And.intro (fun _ => ?_) tf; conv => whnf)
    | (refine And.intro ft (fun _ => ?_); conv => whnf)
    | (refine And.intro (by kernel_rfl) ?_; conv => whnf)
    | (refine And.intro (by decide) ?_; conv => whnf)
    | (refine And.intro (fun _ => ?_) (fun h => absurd h (by decide)); conv => whnf)
    | (refine And.intro (fun h => absurd h (by decide)) (fun _ => ?_); conv => whnf)
    | (refine And.intro (fun _ => ?_) (fun _ => ?_) <;> conv => whnf)
    | (refine ⟨_, _, alive04_sat.pu rfl rfl, ?_⟩; conv => whnf)
    | (refine ⟨_, _, hy.pu rfl rfl, ?_⟩; conv => whnf)))
  all_goals try (exfalso; simp only [decide_eq_true_eq, decide_eq_false_iff_not, Bool.not_eq_true', Bool.not_eq_false', Bool.not_eq_true, Bool.not_eq_false, beq_iff_eq, bne_iff_ne, beq_eq_false_iff_ne, bne_eq_false_iff_eq, ne_eq, Decidable.not_not] at *; first | omega | contradiction | (simp_all; done) | (simp_all; omega))
  refine ⟨Nat, fun i => i ≤ l.length, fun i => ([(5, iA i), (0, iA r), (1, .d (.sl 2 (l.map gR)))], []), fun i => l.length - i, ⟨0, Nat.zero_le _, ?_⟩, ?_⟩
  · all_goals refine ⟨[], ?_⟩
    repeat (any_goals (first | exact True.intro | exact rfl | with_reducible_and_instances rfl | exact (by kernel_rfl) | refine And.intro ?_ ?_))
    all_goals conv => whnf
  intro i hi
  conv => whnf
  by_cases hlt : i < l.length
  case neg =>
    have hie : i = l.length := by omega
    subst hie
    repeat (any_goals (first
      | exact True.intro
      | (refine Or.inl ?_; conv => whnf)
      | (refine And.intro (fun _ => ?_) tf; conv => whnf)
      | (refine And.intro ft (fun _ => ?_); conv => whnf)
      | (refine And.intro (by kernel_rfl) ?_; conv => whnf)
      | (refine And.intro (by decide) ?_; conv => whnf)
      | (refine And.intro (fun _ => ?_) (fun h => absurd h (by decide)); conv => whnf)
      | (refine And.intro (fun h => absurd h (by decide)) (fun _ => ?_); conv => whnf)
      | (refine And.intro (fun _ => ?_) (fun _ => ?_) <;> conv => whnf)))
    all_goals try (exfalso; simp only [decide_eq_true_eq, decide_eq_false_iff_not, Bool.not_eq_true', Bool.not_eq_false', Bool.not_eq_true, Bool.not_eq_false, beq_iff_eq, bne_iff_ne, beq_eq_false_iff_ne, bne_eq_false_iff_eq, ne_eq, Decidable.not_not] at *; first | omega | contradiction | (simp_all; done) | (simp_all; omega))
    all_goals refine ⟨[], ?_⟩
    repeat (any_goals (first | exact True.intro | exact rfl | with_reducible_and_instances rfl | exact (by kernel_rfl) | refine And.intro ?_ ?_))
    all_goals conv => whnf
  have hx : l[i]? = some l[i] := List.getElem?_eq_getElem hlt
  have hpm := List.getElem_mem hlt
  generalize l[i] = p at hx hpm
  repeat (any_goals (first
    | exact True.intro
    | (refine Or.inl ?_; conv => whnf)
    | (refine And.intro (fun _ => ?_) tf; conv => whnf)
    | (refine And.intro ft (fun _ => ?_); conv => whnf)
    | (refine And.intro (by kernel_rfl) ?_; conv => whnf)
    | (refine And.intro (by decide) ?_; conv => whnf)
    | (refine And.intro (fun _ => ?_) (fun h => absurd h (by decide)); conv => whnf)
    | (refine And.intro (fun h => absurd h (by decide)) (fun _ => ?_); conv => whnf)
    | (refine And.intro (fun _ => ?_) (fun _ => ?_) <;> conv => whnf)))
  all_goals try (exfalso; simp only [decide_eq_true_eq, decide_eq_false_iff_not, Bool.not_eq_true', Bool.not_eq_false', Bool.not_eq_true, Bool.not_eq_false, beq_iff_eq, bne_iff_ne, beq_eq_false_iff_ne, bne_eq_false_iff_eq, ne_eq, Decidable.not_not] at *; first | omega | contradiction | (simp_all; done) | (simp_all; omega))
  refine ⟨Nat, fun k => k ≤ l.length, fun k => ([(6, iA k), (5, iA i), (0, iA r), (1, .d (.sl 2 (l.map gR)))], []), fun k => l.length - k, ⟨0, Nat.zero_le _, ?_⟩, ?_⟩
  · all_goals refine ⟨[], ?_⟩
    repeat (any_goals (first | exact True.intro | exact rfl | with_reducible_and_instances rfl | exact (by kernel_rfl) | refine And.intro ?_ ?_))
    all_goals conv => whnf
  intro k hk
  conv => whnf
  by_cases hlk : k < l.length
  case neg =>
    have hke : k = l.length := by omega
    subst hke
    repeat (any_goals (first
      | exact True.intro
      | (refine Or.inl ?_; conv => whnf)
      | (refine And.intro (fun _ => ?_) tf; conv => whnf)
      | (refine And.intro ft (fun _ => ?_); conv => whnf)
      | (refine And.intro (by kernel_rfl) ?_; conv => whnf)
      | (refine And.intro (by decide) ?_; conv => whnf)
      | (refine And.intro (fun _ => ?_) (fun h => absurd h (by decide)); conv => whnf)
      | (refine And.intro (fun h => absurd h (by decide)) (fun _ => ?_); conv => whnf)
      | (refine And.intro (fun _ => ?_) (fun _ => ?_) <;> conv => whnf)))
    all_goals try (exfalso; simp only [decide_eq_true_eq, decide_eq_false_iff_not, Bool.not_eq_true', Bool.not_eq_false', Bool.not_eq_true, Bool.not_eq_false, beq_iff_eq, bne_iff_ne, beq_eq_false_iff_ne, bne_eq_false_iff_eq, ne_eq, Decidable.not_not] at *; first | omega | contradiction | (simp_all; done) | (simp_all; omega))
    refine ⟨i + 1, hlt, show l.length - (i + 1) < l.length - i by omega, ?_⟩
    all_goals refine ⟨[], ?_⟩
    repeat (any_goals (first | exact True.intro | exact rfl | with_reducible_and_instances rfl | exact (by kernel_rfl) | refine And.intro ?_ ?_))
    all_goals conv => whnf
    exact wk1 (by omega)
  have hy : l[k]? = some l[k] := List.getElem?_eq_getElem hlk
  have hqm := List.getElem_mem hlk
  generalize l[k] = q at hy hqm
  have tp := hT p hpm
  have tq := hT q hqm
  unfold inT at tp tq
  have hw1 : IntKind.i64.wrap (q.2 - p.2) = q.2 - p.2 := wi (by omega) (by omega)
  have hw2 : IntKind.i64.wrap (q.1 - p.1) = q.1 - p.1 := wi (by omega) (by omega)
  obtain ⟨b1, b2⟩ := bounds_all hh hpm hqm
  have hnx : nearX (q.2 - p.2) = true := decide_eq_true (by omega)
  have c1 : Sat Try.prog 34 [iA (IntKind.i64.wrap (q.2 - p.2)), iA r] [] (.tup [iA (lowZ (q.2 - p.2) r), iA 0]) [] := by rw [hw1]; exact lowD_sat _ r hnx hr
  have c2 : Sat Try.prog 35 [iA (IntKind.i64.wrap (q.2 - p.2)), iA r] [] (.tup [iA (highZ (q.2 - p.2) r), iA 0]) [] := by rw [hw1]; exact highD_sat _ r hnx hr
  generalize lowZ (q.2 - p.2) r = a at *
  generalize highZ (q.2 - p.2) r = b at *
  clear hh hT hr
  repeat (any_goals (first
    | exact True.intro
    | (refine Or.inl ?_; conv => whnf)
    | (refine And.intro (fun _ => ?_) tf; conv => whnf)
    | (refine And.intro ft (fun _ => ?_); conv => whnf)
    | (refine And.intro (by kernel_rfl) ?_; conv => whnf)
    | (refine And.intro (by decide) ?_; conv => whnf)
    | (refine And.intro (fun _ => ?_) (fun h => absurd h (by decide)); conv => whnf)
    | (refine And.intro (fun h => absurd h (by decide)) (fun _ => ?_); conv => whnf)
    | (refine ⟨k, _, rfl, map_get hy, ?_⟩; conv => whnf)
    | (refine ⟨i, _, rfl, map_get hx, ?_⟩; conv => whnf)
    | (refine And.intro (fun _ => ?_) (fun _ => ?_) <;> conv => whnf)
    | (refine ⟨_, _, c1.pu rfl rfl, ?_⟩; conv => whnf)
    | (refine ⟨_, _, c2.pu rfl rfl, ?_⟩; conv => whnf)))
  all_goals try (exfalso; simp only [decide_eq_true_eq, decide_eq_false_iff_not, Bool.not_eq_true', Bool.not_eq_false', Bool.not_eq_true, Bool.not_eq_false, beq_iff_eq, bne_iff_ne, beq_eq_false_iff_ne, bne_eq_false_iff_eq, ne_eq, Decidable.not_not] at *; first | omega | contradiction | (simp_all; done) | (simp_all; omega))
  refine ⟨k + 1, hlk, show l.length - (k + 1) < l.length - k by omega, ?_⟩
  all_goals refine ⟨[], ?_⟩
  repeat (any_goals (first | exact True.intro | exact rfl | with_reducible_and_instances rfl | exact (by kernel_rfl) | refine And.intro ?_ ?_))
  all_goals conv => whnf
  exact wk1 (by omega)
theorem ty_pts {x : D} (h : TyV Try.prog 63 x) : ∃ l : List (Int × Int), x = .sl 2 (l.map gR) ∧ (∀ g ∈ l, in64 g.1 ∧ in64 g.2) := by
  obtain ⟨rows, rfl, h2, h3⟩ := ty_slice h Try.underlying63
  obtain ⟨l, rfl, hl⟩ := rows_map (f := gR) (p := fun g => in64 g.1 ∧ in64 g.2) fun r hr => by
    obtain ⟨zs, h1, rfl, h3⟩ := ty_ints (n := 2) (h2 r hr) (by kernel_rfl)
    match zs, h1, h3 with
    | [a, b], _, h3 => exact ⟨(a, b), rfl, h3 a (by simp), h3 b (by simp)⟩
  refine ⟨l, ?_, hl⟩
  rw [show Try.prog.cellsOf 66 = 2 by kernel_rfl]
theorem dsound_law (H : Type) (enc : TypeId × Value → H) : LawWalk H enc Try.prog 9 Try.f9 :=
  lawWalk_of_sat (by kernel_rfl) fun args h => by
    obtain ⟨r, _, rfl, h1, h⟩ := h
    obtain ⟨x, _, rfl, h2, h⟩ := h
    obtain rfl := h
    obtain ⟨r, rfl, _⟩ := ty_i64 h1 Try.underlying2
    obtain ⟨l, rfl, _⟩ := ty_pts h2
    exact dsound_sat r l
end Go.Proofs.Ytgidaifoiljgoaa
/- DriftRates, by conditions. -/
namespace Go.Proofs.Ytgidaifoiljgoaa
set_option linter.unusedSimpArgs false
set_option linter.unusedVariables false
open Go.RowKit Go.Sort
set_option maxRecDepth 100000
theorem pair_all {l : List (Int × Int)} {r : Int} (h : HonOK r l) {p q : Int × Int} (hp : p ∈ l) (hq : q ∈ l) (hpq : ¬ ltP q p) : upP p q ∧ okP r p q := by
  obtain ⟨i, hi⟩ := List.mem_iff_getElem?.1 ((sorted_perm cmpP l).mem_iff.2 hp)
  obtain ⟨j, hj⟩ := List.mem_iff_getElem?.1 ((sorted_perm cmpP l).mem_iff.2 hq)
  have self : p = q → upP p q ∧ okP r p q := fun e => by
    subst e
    refine ⟨⟨Int.le_refl _, Int.le_refl _, fun _ => rfl⟩, ?_⟩
    unfold okP
    omega
  rcases Nat.lt_trichotomy i j with c | c | c
  · obtain ⟨n, rfl⟩ : ∃ n, j = i + n + 1 := ⟨j - i - 1, by omega⟩
    refine ⟨up_chain h.2.1 n i p q hi hj, ?_⟩
    obtain ⟨a1, rfl⟩ := List.getElem?_eq_some_iff.1 hi
    obtain ⟨a2, rfl⟩ := List.getElem?_eq_some_iff.1 hj
    exact List.pairwise_iff_getElem.1 (of_decide_eq_true h.2.2) _ _ a1 a2 (by omega)
  · subst c
    rw [hi] at hj; injection hj with hj
    exact self hj
  · refine self ?_
    obtain ⟨a1, rfl⟩ := List.getElem?_eq_some_iff.1 hi
    obtain ⟨a2, rfl⟩ := List.getElem?_eq_some_iff.1 hj
    have h2 := List.pairwise_iff_getElem.1 (sortedP l) _ _ a2 a1 c
    unfold ltP at h2 hpq
    exact Prod.ext (by omega) (by omega)
theorem hon_sub {l m : List (Int × Int)} {r : Int} (h : HonOK r l) (hs : ∀ p ∈ m, p ∈ l) : HonOK r m := by
  have hmem : ∀ p ∈ sorted cmpP m, p ∈ l := fun p hp => hs p ((sorted_perm cmpP m).mem_iff.1 hp)
  refine ⟨h.1, ⟨fun p hp => h.2.1.1 p (hs p hp), fun j p q hp hq => ?_⟩, decide_eq_true (List.pairwise_iff_getElem.2 fun i j hi hj hij => ?_)⟩
  · have m1 := hmem p (List.mem_of_getElem? hp)
    have m2 := hmem q (List.mem_of_getElem? hq)
    obtain ⟨a1, rfl⟩ := List.getElem?_eq_some_iff.1 hp
    obtain ⟨a2, rfl⟩ := List.getElem?_eq_some_iff.1 hq
    have h2 := List.pairwise_iff_getElem.1 (sortedP m) j (j + 1) a1 a2 (by omega)
    exact (pair_all h m1 m2 h2).1.2
  · have h2 := List.pairwise_iff_getElem.1 (sortedP m) i j hi hj hij
    exact (pair_all h (hmem _ (List.getElem_mem hi)) (hmem _ (List.getElem_mem hj)) h2).2
theorem from_dz {P : Program} {t ty : TypeId} {sx a1 : Operand} {L : List AObj} {n : Nat} {kl : IntKind} {z : Int} {rows : List (List D)} (lo s b : Nat) (h : slB P t s b = true) (hz : z = (lo : Int)) (h1 : lo ≤ rows.length) : Does P (.slice t sx (some a1) none none) ty L n [.d (.sl s rows), .d (.v (.int kl z))] e0 (.d (.sl s (rows.drop lo))) := by
  subst hz
  exact from_d s b h h1
theorem drates_sat (r more : Int) (l : List (Int × Int)) (skip : Int) : Sat Try.prog 10 [iA r, iA more, .d (.sl 2 (l.map gR)), iA skip] [] (bA true) [] := by
  have hm : (l.map gR).length = l.length := List.length_map _
  by_cases h30 : 30 < l.length
  · refine sat_of_vc (T := tiOf Try.prog) (E := E0) Try.func10 rfl rfl hE0 hm0 rfl ?_
    conv => whnf
    repeat (any_goals (first
      | exact True.intro
      | (refine And.intro (fun _ => ?_) tf; conv => whnf)
      | (refine And.intro ft (fun _ => ?_); conv => whnf)
      | (refine And.intro (by kernel_rfl) ?_; conv => whnf)
      | (refine And.intro (by decide) ?_; conv => whnf)
      | (refine And.intro (fun _ => ?_) (fun h => absurd h (by decide)); conv => whnf)
      | (refine And.intro (fun h => absurd h (by decide)) (fun _ => ?_); conv => whnf)
      | (refine And.intro (fun _ => ?_) (fun _ => ?_) <;> conv => whnf)
      | (refine ⟨_, _, alive04_sat.pu rfl rfl, ?_⟩; conv => whnf)))
    all_goals try (exfalso; simp only [decide_eq_true_eq, decide_eq_false_iff_not, Bool.not_eq_true', Bool.not_eq_false', Bool.not_eq_true, Bool.not_eq_false, beq_iff_eq, bne_iff_ne, beq_eq_false_iff_ne, bne_eq_false_iff_eq, ne_eq, Decidable.not_not] at *; first | omega | contradiction | (simp_all; done) | (simp_all; omega))
    all_goals try (refine Or.inl ?_; conv => whnf)
    repeat (any_goals (first
      | exact True.intro
      | (refine And.intro (fun _ => ?_) tf; conv => whnf)
      | (refine And.intro ft (fun _ => ?_); conv => whnf)
      | (refine And.intro (by kernel_rfl) ?_; conv => whnf)
      | (refine And.intro (by decide) ?_; conv => whnf)
      | (refine And.intro (fun _ => ?_) (fun h => absurd h (by decide)); conv => whnf)
      | (refine And.intro (fun h => absurd h (by decide)) (fun _ => ?_); conv => whnf)
      | (refine And.intro (fun _ => ?_) (fun _ => ?_) <;> conv => whnf)
      | (refine ⟨_, _, alive04_sat.pu rfl rfl, ?_⟩; conv => whnf)))
    all_goals try (exfalso; simp only [decide_eq_true_eq, decide_eq_false_iff_not, Bool.not_eq_true', Bool.not_eq_false', Bool.not_eq_true, Bool.not_eq_false, beq_iff_eq, bne_iff_ne, beq_eq_false_iff_ne, bne_eq_false_iff_eq, ne_eq, Decidable.not_not] at *; first | omega | contradiction | (simp_all; done) | (simp_all; omega))
    all_goals try (refine Or.inl ?_; conv => whnf)
    repeat (any_goals (first
      | exact True.intro
      | (refine And.intro (fun _ => ?_) tf; conv => whnf)
      | (refine And.intro ft (fun _ => ?_); conv => whnf)
      | (refine And.intro (by kernel_rfl) ?_; conv => whnf)
      | (refine And.intro (by decide) ?_; conv => whnf)
      | (refine And.intro (fun _ => ?_) (fun h => absurd h (by decide)); conv => whnf)
      | (refine And.intro (fun h => absurd h (by decide)) (fun _ => ?_); conv => whnf)
      | (refine And.intro (fun _ => ?_) (fun _ => ?_) <;> conv => whnf)
      | (refine ⟨_, _, alive04_sat.pu rfl rfl, ?_⟩; conv => whnf)))
    all_goals try (exfalso; simp only [decide_eq_true_eq, decide_eq_false_iff_not, Bool.not_eq_true', Bool.not_eq_false', Bool.not_eq_true, Bool.not_eq_false, beq_iff_eq, bne_iff_ne, beq_eq_false_iff_ne, bne_eq_false_iff_eq, ne_eq, Decidable.not_not] at *; first | omega | contradiction | (simp_all; done) | (simp_all; omega))
    all_goals refine ⟨[], ?_⟩
    repeat (any_goals (first | exact True.intro | exact rfl | with_reducible_and_instances rfl | exact (by kernel_rfl) | refine And.intro ?_ ?_))
    all_goals conv => whnf
  by_cases hh : HonOK r l
  case neg =>
    have hn := honest_no r l (by omega) hh
    refine sat_of_vc (T := tiOf Try.prog) (E := E0) Try.func10 rfl rfl hE0 hm0 rfl ?_
    conv => whnf
    repeat (any_goals (first
      | exact True.intro
      | (refine And.intro (fun _ => ?_) tf; conv => whnf)
      | (refine And.intro ft (fun _ => ?_); conv => whnf)
      | (refine And.intro (by kernel_rfl) ?_; conv => whnf)
      | (refine And.intro (by decide) ?_; conv => whnf)
      | (refine And.intro (fun _ => ?_) (fun h => absurd h (by decide)); conv => whnf)
      | (refine And.intro (fun h => absurd h (by decide)) (fun _ => ?_); conv => whnf)
      | (refine And.intro (fun _ => ?_) (fun _ => ?_) <;> conv => whnf)
      | (refine ⟨_, _, alive04_sat.pu rfl rfl, ?_⟩; conv => whnf)
      | (refine ⟨_, _, hn.pu rfl rfl, ?_⟩; conv => whnf)))
    all_goals try (exfalso; simp only [decide_eq_true_eq, decide_eq_false_iff_not, Bool.not_eq_true', Bool.not_eq_false', Bool.not_eq_true, Bool.not_eq_false, beq_iff_eq, bne_iff_ne, beq_eq_false_iff_ne, bne_eq_false_iff_eq, ne_eq, Decidable.not_not] at *; first | omega | contradiction | (simp_all; done) | (simp_all; omega))
    all_goals try (refine Or.inl ?_; conv => whnf)
    repeat (any_goals (first
      | exact True.intro
      | (refine And.intro (fun _ => ?_) tf; conv => whnf)
      | (refine And.intro ft (fun _ => ?_); conv => whnf)
      | (refine And.intro (by kernel_rfl) ?_; conv => whnf)
      | (refine And.intro (by decide) ?_; conv => whnf)
      | (refine And.intro (fun _ => ?_) (fun h => absurd h (by decide)); conv => whnf)
      | (refine And.intro (fun h => absurd h (by decide)) (fun _ => ?_); conv => whnf)
      | (refine And.intro (fun _ => ?_) (fun _ => ?_) <;> conv => whnf)
      | (refine ⟨_, _, alive04_sat.pu rfl rfl, ?_⟩; conv => whnf)
      | (refine ⟨_, _, hn.pu rfl rfl, ?_⟩; conv => whnf)))
    all_goals try (exfalso; simp only [decide_eq_true_eq, decide_eq_false_iff_not, Bool.not_eq_true', Bool.not_eq_false', Bool.not_eq_true, Bool.not_eq_false, beq_iff_eq, bne_iff_ne, beq_eq_false_iff_ne, bne_eq_false_iff_eq, ne_eq, Decidable.not_not] at *; first | omega | contradiction | (simp_all; done) | (simp_all; omega))
    all_goals try (refine Or.inl ?_; conv => whnf)
    repeat (any_goals (first
      | exact True.intro
      | (refine And.intro (fun _ => ?_) tf; conv => whnf)
      | (refine And.intro ft (fun _ => ?_); conv => whnf)
      | (refine And.intro (by kernel_rfl) ?_; conv => whnf)
      | (refine And.intro (by decide) ?_; conv => whnf)
      | (refine And.intro (fun _ => ?_) (fun h => absurd h (by decide)); conv => whnf)
      | (refine And.intro (fun h => absurd h (by decide)) (fun _ => ?_); conv => whnf)
      | (refine And.intro (fun _ => ?_) (fun _ => ?_) <;> conv => whnf)
      | (refine ⟨_, _, alive04_sat.pu rfl rfl, ?_⟩; conv => whnf)
      | (refine ⟨_, _, hn.pu rfl rfl, ?_⟩; conv => whnf)))
    all_goals try (exfalso; simp only [decide_eq_true_eq, decide_eq_false_iff_not, Bool.not_eq_true', Bool.not_eq_false', Bool.not_eq_true, Bool.not_eq_false, beq_iff_eq, bne_iff_ne, beq_eq_false_iff_ne, bne_eq_false_iff_eq, ne_eq, Decidable.not_not] at *; first | omega | contradiction | (simp_all; done) | (simp_all; omega))
    all_goals refine ⟨[], ?_⟩
    repeat (any_goals (first | exact True.intro | exact rfl | with_reducible_and_instances rfl | exact (by kernel_rfl) | refine And.intro ?_ ?_))
    all_goals conv => whnf
  have hy := honest_yes r l (by omega) hh
  have hr := of_decide_eq_true hh.1
  obtain ⟨n, hn1, hn2, hn3⟩ := leastR_ex (sorted cmpP l)
  have hnr : n ≤ r.toNat := by
    rcases Nat.lt_or_ge r.toNat n with q | q
    · have := hn2 r.toNat q
      rw [Int.toNat_of_nonneg hr.1, hh.2.2] at this; cases this
    · exact q
  have ls := least_yes l (by omega) hh.2.1 n hn1 hn2 hn3
  rw [if_pos (by omega), decide_eq_true (show n ≤ 100000 by omega)] at ls
  have hyn := honest_yes n l (by omega) ⟨decide_eq_true (by omega), hh.2.1, hn3 (by omega)⟩
  have hyn1 : 0 < n → Sat Try.prog 36 [iA (IntKind.i64.wrap ((n : Int) - 1)), .d (.sl 2 (l.map gR))] [] (bA false) [] := fun h0 => by
    rw [wi (by omega) (by omega)]
    refine honest_no _ l (by omega) fun q => ?_
    have e := hn2 (n - 1) (by omega)
    rw [show ((n - 1 : Nat) : Int) = (n : Int) - 1 by omega, q.2.2] at e; cases e
  have hym : r ≤ more → more ≤ 100000 → Sat Try.prog 36 [iA more, .d (.sl 2 (l.map gR))] [] (bA true) [] := fun a b =>
    honest_yes more l (by omega) ⟨decide_eq_true (by omega), hh.2.1, near_mono l a hh.2.2⟩
  refine sat_of_vc (T := tiOf Try.prog) (E := E0) Try.func10 rfl rfl hE0 hm0 rfl ?_
  conv => whnf
  repeat (any_goals (first
    | exact True.intro
    | (refine And.intro (fun _ => ?_) tf; conv => whnf)
    | (refine And.intro ft (fun _ => ?_); conv => whnf)
    | (refine And.intro (by kernel_rfl) ?_; conv => whnf)
    | (refine And.intro (by decide) ?_; conv => whnf)
    | (refine And.intro (fun _ => ?_) (fun h => absurd h (by decide)); conv => whnf)
    | (refine And.intro (fun h => absurd h (by decide)) (fun _ => ?_); conv => whnf)
    | (refine And.intro (fun _ => ?_) (fun _ => ?_) <;> conv => whnf)
    | (refine ⟨_, _, alive04_sat.pu rfl rfl, ?_⟩; conv => whnf)
    | (refine ⟨_, _, hy.pu rfl rfl, ?_⟩; conv => whnf)))
  all_goals try (exfalso; simp only [decide_eq_true_eq, decide_eq_false_iff_not, Bool.not_eq_true', Bool.not_eq_false', Bool.not_eq_true, Bool.not_eq_false, beq_iff_eq, bne_iff_ne, beq_eq_false_iff_ne, bne_eq_false_iff_eq, ne_eq, Decidable.not_not] at *; first | omega | contradiction | (simp_all; done) | (simp_all; omega))
  all_goals try (refine Or.inl ?_; conv => whnf)
  repeat (any_goals (first
    | exact True.intro
    | (refine And.intro (fun _ => ?_) tf; conv => whnf)
    | (refine And.intro ft (fun _ => ?_); conv => whnf)
    | (refine And.intro (by kernel_rfl) ?_; conv => whnf)
    | (refine And.intro (by decide) ?_; conv => whnf)
    | (refine And.intro (fun _ => ?_) (fun h => absurd h (by decide)); conv => whnf)
    | (refine And.intro (fun h => absurd h (by decide)) (fun _ => ?_); conv => whnf)
    | (refine And.intro (fun _ => ?_) (fun _ => ?_) <;> conv => whnf)
    | (refine ⟨_, _, alive04_sat.pu rfl rfl, ?_⟩; conv => whnf)
    | (refine ⟨_, _, hy.pu rfl rfl, ?_⟩; conv => whnf)))
  all_goals try (exfalso; simp only [decide_eq_true_eq, decide_eq_false_iff_not, Bool.not_eq_true', Bool.not_eq_false', Bool.not_eq_true, Bool.not_eq_false, beq_iff_eq, bne_iff_ne, beq_eq_false_iff_ne, bne_eq_false_iff_eq, ne_eq, Decidable.not_not] at *; first | omega | contradiction | (simp_all; done) | (simp_all; omega))
  all_goals try (refine Or.inl ?_; conv => whnf)
  repeat (any_goals (first
    | exact True.intro
    | (refine And.intro (fun _ => ?_) tf; conv => whnf)
    | (refine And.intro ft (fun _ => ?_); conv => whnf)
    | (refine And.intro (by kernel_rfl) ?_; conv => whnf)
    | (refine And.intro (by decide) ?_; conv => whnf)
    | (refine And.intro (fun _ => ?_) (fun h => absurd h (by decide)); conv => whnf)
    | (refine And.intro (fun h => absurd h (by decide)) (fun _ => ?_); conv => whnf)
    | (refine And.intro (fun _ => ?_) (fun _ => ?_) <;> conv => whnf)
    | (refine ⟨_, _, alive04_sat.pu rfl rfl, ?_⟩; conv => whnf)
    | (refine ⟨_, _, hy.pu rfl rfl, ?_⟩; conv => whnf)))
  all_goals try (exfalso; simp only [decide_eq_true_eq, decide_eq_false_iff_not, Bool.not_eq_true', Bool.not_eq_false', Bool.not_eq_true, Bool.not_eq_false, beq_iff_eq, bne_iff_ne, beq_eq_false_iff_ne, bne_eq_false_iff_eq, ne_eq, Decidable.not_not] at *; first | omega | contradiction | (simp_all; done) | (simp_all; omega))
  refine Or.inr ⟨Unit, fun _ => True, fun _ => ([(0, iA r), (2, .d (.sl 2 (l.map gR))), (3, iA skip)], []), ?_, fun _ _ => ?_⟩
  · by_cases hA : r ≤ more ∧ more ≤ 100000
    · have hm1 := hym hA.1 hA.2
      repeat (any_goals (first
        | exact True.intro
        | (refine And.intro (fun _ => ?_) tf; conv => whnf)
        | (refine And.intro ft (fun _ => ?_); conv => whnf)
        | (refine And.intro (by kernel_rfl) ?_; conv => whnf)
        | (refine And.intro (by decide) ?_; conv => whnf)
        | (refine And.intro (fun _ => ?_) (fun h => absurd h (by decide)); conv => whnf)
        | (refine And.intro (fun h => absurd h (by decide)) (fun _ => ?_); conv => whnf)
        | (refine And.intro (fun _ => ?_) (fun _ => ?_) <;> conv => whnf)
        | (refine ⟨_, _, hm1.pu rfl rfl, ?_⟩; conv => whnf)))
      all_goals try (exfalso; simp only [decide_eq_true_eq, decide_eq_false_iff_not, Bool.not_eq_true', Bool.not_eq_false', Bool.not_eq_true, Bool.not_eq_false, beq_iff_eq, bne_iff_ne, beq_eq_false_iff_ne, bne_eq_false_iff_eq, ne_eq, Decidable.not_not] at *; first | omega | contradiction | (simp_all; done) | (simp_all; omega))
      all_goals refine ⟨(), trivial, ?_⟩
      all_goals refine ⟨[], ?_⟩
      repeat (any_goals (first | exact True.intro | exact rfl | with_reducible_and_instances rfl | exact (by kernel_rfl) | refine And.intro ?_ ?_))
      all_goals conv => whnf
    · repeat (any_goals (first
        | exact True.intro
        | (refine And.intro (fun _ => ?_) tf; conv => whnf)
        | (refine And.intro ft (fun _ => ?_); conv => whnf)
        | (refine And.intro (by kernel_rfl) ?_; conv => whnf)
        | (refine And.intro (by decide) ?_; conv => whnf)
        | (refine And.intro (fun _ => ?_) (fun h => absurd h (by decide)); conv => whnf)
        | (refine And.intro (fun h => absurd h (by decide)) (fun _ => ?_); conv => whnf)
        | (refine And.intro (fun _ => ?_) (fun _ => ?_) <;> conv => whnf)))
      all_goals try (exfalso; simp only [decide_eq_true_eq, decide_eq_false_iff_not, Bool.not_eq_true', Bool.not_eq_false', Bool.not_eq_true, Bool.not_eq_false, beq_iff_eq, bne_iff_ne, beq_eq_false_iff_ne, bne_eq_false_iff_eq, ne_eq, Decidable.not_not] at *; first | omega | contradiction | (simp_all; done) | (simp_all; omega))
      all_goals refine ⟨(), trivial, ?_⟩
      all_goals refine ⟨[], ?_⟩
      repeat (any_goals (first | exact True.intro | exact rfl | with_reducible_and_instances rfl | exact (by kernel_rfl) | refine And.intro ?_ ?_))
      all_goals conv => whnf
  have hS : ∀ t : Nat, (([] : List (List D)) ++ (l.map gR).take t) ++ (l.map gR).drop (t + 1) = (l.take t ++ l.drop (t + 1)).map gR := fun t => by
    rw [List.map_append, List.map_drop, List.map_take, List.nil_append]
  have HS := hide hS
  have hsub := fun t : Nat => honest_yes r (l.take t ++ l.drop (t + 1)) (by rw [List.length_append, List.length_take, List.length_drop]; omega) (hon_sub hh fun p hp => by
    rcases List.mem_append.1 hp with q | q
    · exact List.mem_of_mem_take q
    · exact List.mem_of_mem_drop q)
  clear hS hym hn2 hn3
  rcases Nat.eq_zero_or_pos n with h0 | h0 <;> by_cases hs : 0 ≤ skip ∧ skip < l.length
  · obtain ⟨s, rfl⟩ : ∃ s : Nat, skip = s := ⟨skip.toNat, by omega⟩
    have hw : IntKind.i64.wrap ((s : Int) + 1) = ((s + 1 : Nat) : Int) := by rw [wi (by omega) (by omega)]; omega
    have hl := hsub s
    clear hsub hyn1
    conv => whnf
    repeat (any_goals (first
      | exact True.intro
      | (refine And.intro (fun _ => ?_) tf; conv => whnf)
      | (refine And.intro ft (fun _ => ?_); conv => whnf)
      | (refine And.intro (by kernel_rfl) ?_; conv => whnf)
      | (refine And.intro (by decide) ?_; conv => whnf)
      | (refine And.intro (fun _ => ?_) (fun h => absurd h (by decide)); conv => whnf)
      | (refine And.intro (fun h => absurd h (by decide)) (fun _ => ?_); conv => whnf)
      | (refine And.intro (fun _ => ?_) (fun _ => ?_) <;> conv => whnf)
      | (refine ⟨_, _, ls.pu rfl rfl, ?_⟩; conv => whnf)
      | (refine ⟨_, _, hyn.pu rfl rfl, ?_⟩; conv => whnf)
      | (refine ⟨_, _, upto_d 2 16 (by kernel_rfl) (by simp; omega), ?_⟩; conv => whnf)
      | (refine ⟨_, _, from_dz (s + 1) 2 16 (by kernel_rfl) hw (by simp; omega), ?_⟩; conv => whnf)
      | (refine ⟨_, _, apd 2 16 (by kernel_rfl) rfl (by simp; omega), ?_⟩; conv => whnf)))
    all_goals try (exfalso; simp only [decide_eq_true_eq, decide_eq_false_iff_not, Bool.not_eq_true', Bool.not_eq_false', Bool.not_eq_true, Bool.not_eq_false, beq_iff_eq, bne_iff_ne, beq_eq_false_iff_ne, bne_eq_false_iff_eq, ne_eq, Decidable.not_not] at *; first | omega | contradiction | (simp_all; done) | (simp_all; omega))
    all_goals try (refine Or.inl ?_; conv => whnf)
    repeat (any_goals (first
      | exact True.intro
      | (refine And.intro (fun _ => ?_) tf; conv => whnf)
      | (refine And.intro ft (fun _ => ?_); conv => whnf)
      | (refine And.intro (by kernel_rfl) ?_; conv => whnf)
      | (refine And.intro (by decide) ?_; conv => whnf)
      | (refine And.intro (fun _ => ?_) (fun h => absurd h (by decide)); conv => whnf)
      | (refine And.intro (fun h => absurd h (by decide)) (fun _ => ?_); conv => whnf)
      | (refine And.intro (fun _ => ?_) (fun _ => ?_) <;> conv => whnf)
      | (refine ⟨_, _, ls.pu rfl rfl, ?_⟩; conv => whnf)
      | (refine ⟨_, _, hyn.pu rfl rfl, ?_⟩; conv => whnf)
      | (refine ⟨_, _, upto_d 2 16 (by kernel_rfl) (by simp; omega), ?_⟩; conv => whnf)
      | (refine ⟨_, _, from_dz (s + 1) 2 16 (by kernel_rfl) hw (by simp; omega), ?_⟩; conv => whnf)
      | (refine ⟨_, _, apd 2 16 (by kernel_rfl) rfl (by simp; omega), ?_⟩; conv => whnf)))
    all_goals try (exfalso; simp only [decide_eq_true_eq, decide_eq_false_iff_not, Bool.not_eq_true', Bool.not_eq_false', Bool.not_eq_true, Bool.not_eq_false, beq_iff_eq, bne_iff_ne, beq_eq_false_iff_ne, bne_eq_false_iff_eq, ne_eq, Decidable.not_not] at *; first | omega | contradiction | (simp_all; done) | (simp_all; omega))
    all_goals try (refine Or.inl ?_; conv => whnf)
    repeat (any_goals (first
      | exact True.intro
      | (refine And.intro (fun _ => ?_) tf; conv => whnf)
      | (refine And.intro ft (fun _ => ?_); conv => whnf)
      | (refine And.intro (by kernel_rfl) ?_; conv => whnf)
      | (refine And.intro (by decide) ?_; conv => whnf)
      | (refine And.intro (fun _ => ?_) (fun h => absurd h (by decide)); conv => whnf)
      | (refine And.intro (fun h => absurd h (by decide)) (fun _ => ?_); conv => whnf)
      | (refine And.intro (fun _ => ?_) (fun _ => ?_) <;> conv => whnf)
      | (refine ⟨_, _, ls.pu rfl rfl, ?_⟩; conv => whnf)
      | (refine ⟨_, _, hyn.pu rfl rfl, ?_⟩; conv => whnf)
      | (refine ⟨_, _, upto_d 2 16 (by kernel_rfl) (by simp; omega), ?_⟩; conv => whnf)
      | (refine ⟨_, _, from_dz (s + 1) 2 16 (by kernel_rfl) hw (by simp; omega), ?_⟩; conv => whnf)
      | (refine ⟨_, _, apd 2 16 (by kernel_rfl) rfl (by simp; omega), ?_⟩; conv => whnf)))
    all_goals try (exfalso; simp only [decide_eq_true_eq, decide_eq_false_iff_not, Bool.not_eq_true', Bool.not_eq_false', Bool.not_eq_true, Bool.not_eq_false, beq_iff_eq, bne_iff_ne, beq_eq_false_iff_ne, bne_eq_false_iff_eq, ne_eq, Decidable.not_not] at *; first | omega | contradiction | (simp_all; done) | (simp_all; omega))
    rw [HS.out s]
    repeat (any_goals (first
      | exact True.intro
      | (refine Or.inl ?_; conv => whnf)
      | (refine And.intro (fun _ => ?_) tf; conv => whnf)
      | (refine And.intro ft (fun _ => ?_); conv => whnf)
      | (refine And.intro (by kernel_rfl) ?_; conv => whnf)
      | (refine And.intro (by decide) ?_; conv => whnf)
      | (refine And.intro (fun _ => ?_) (fun h => absurd h (by decide)); conv => whnf)
      | (refine And.intro (fun h => absurd h (by decide)) (fun _ => ?_); conv => whnf)
      | (refine And.intro (fun _ => ?_) (fun _ => ?_) <;> conv => whnf)
      | (refine ⟨_, _, lend_b hl rfl rfl, ?_⟩; conv => whnf)))
    all_goals refine ⟨[], ?_⟩
    repeat (any_goals (first | exact True.intro | exact rfl | with_reducible_and_instances rfl | exact (by kernel_rfl) | refine And.intro ?_ ?_))
    all_goals conv => whnf
  · clear hsub hyn1
    conv => whnf
    repeat (any_goals (first
      | exact True.intro
      | (refine And.intro (fun _ => ?_) tf; conv => whnf)
      | (refine And.intro ft (fun _ => ?_); conv => whnf)
      | (refine And.intro (by kernel_rfl) ?_; conv => whnf)
      | (refine And.intro (by decide) ?_; conv => whnf)
      | (refine And.intro (fun _ => ?_) (fun h => absurd h (by decide)); conv => whnf)
      | (refine And.intro (fun h => absurd h (by decide)) (fun _ => ?_); conv => whnf)
      | (refine And.intro (fun _ => ?_) (fun _ => ?_) <;> conv => whnf)
      | (refine ⟨_, _, ls.pu rfl rfl, ?_⟩; conv => whnf)
      | (refine ⟨_, _, hyn.pu rfl rfl, ?_⟩; conv => whnf)))
    all_goals try (exfalso; simp only [decide_eq_true_eq, decide_eq_false_iff_not, Bool.not_eq_true', Bool.not_eq_false', Bool.not_eq_true, Bool.not_eq_false, beq_iff_eq, bne_iff_ne, beq_eq_false_iff_ne, bne_eq_false_iff_eq, ne_eq, Decidable.not_not] at *; first | omega | contradiction | (simp_all; done) | (simp_all; omega))
    all_goals try (refine Or.inl ?_; conv => whnf)
    repeat (any_goals (first
      | exact True.intro
      | (refine And.intro (fun _ => ?_) tf; conv => whnf)
      | (refine And.intro ft (fun _ => ?_); conv => whnf)
      | (refine And.intro (by kernel_rfl) ?_; conv => whnf)
      | (refine And.intro (by decide) ?_; conv => whnf)
      | (refine And.intro (fun _ => ?_) (fun h => absurd h (by decide)); conv => whnf)
      | (refine And.intro (fun h => absurd h (by decide)) (fun _ => ?_); conv => whnf)
      | (refine And.intro (fun _ => ?_) (fun _ => ?_) <;> conv => whnf)
      | (refine ⟨_, _, ls.pu rfl rfl, ?_⟩; conv => whnf)
      | (refine ⟨_, _, hyn.pu rfl rfl, ?_⟩; conv => whnf)))
    all_goals try (exfalso; simp only [decide_eq_true_eq, decide_eq_false_iff_not, Bool.not_eq_true', Bool.not_eq_false', Bool.not_eq_true, Bool.not_eq_false, beq_iff_eq, bne_iff_ne, beq_eq_false_iff_ne, bne_eq_false_iff_eq, ne_eq, Decidable.not_not] at *; first | omega | contradiction | (simp_all; done) | (simp_all; omega))
    all_goals try (refine Or.inl ?_; conv => whnf)
    repeat (any_goals (first
      | exact True.intro
      | (refine And.intro (fun _ => ?_) tf; conv => whnf)
      | (refine And.intro ft (fun _ => ?_); conv => whnf)
      | (refine And.intro (by kernel_rfl) ?_; conv => whnf)
      | (refine And.intro (by decide) ?_; conv => whnf)
      | (refine And.intro (fun _ => ?_) (fun h => absurd h (by decide)); conv => whnf)
      | (refine And.intro (fun h => absurd h (by decide)) (fun _ => ?_); conv => whnf)
      | (refine And.intro (fun _ => ?_) (fun _ => ?_) <;> conv => whnf)
      | (refine ⟨_, _, ls.pu rfl rfl, ?_⟩; conv => whnf)
      | (refine ⟨_, _, hyn.pu rfl rfl, ?_⟩; conv => whnf)))
    all_goals try (exfalso; simp only [decide_eq_true_eq, decide_eq_false_iff_not, Bool.not_eq_true', Bool.not_eq_false', Bool.not_eq_true, Bool.not_eq_false, beq_iff_eq, bne_iff_ne, beq_eq_false_iff_ne, bne_eq_false_iff_eq, ne_eq, Decidable.not_not] at *; first | omega | contradiction | (simp_all; done) | (simp_all; omega))
    all_goals refine ⟨[], ?_⟩
    repeat (any_goals (first | exact True.intro | exact rfl | with_reducible_and_instances rfl | exact (by kernel_rfl) | refine And.intro ?_ ?_))
    all_goals conv => whnf
  · have hy1 := hyn1 h0
    obtain ⟨s, rfl⟩ : ∃ s : Nat, skip = s := ⟨skip.toNat, by omega⟩
    have hw : IntKind.i64.wrap ((s : Int) + 1) = ((s + 1 : Nat) : Int) := by rw [wi (by omega) (by omega)]; omega
    have hl := hsub s
    clear hsub hyn1
    conv => whnf
    repeat (any_goals (first
      | exact True.intro
      | (refine And.intro (fun _ => ?_) tf; conv => whnf)
      | (refine And.intro ft (fun _ => ?_); conv => whnf)
      | (refine And.intro (by kernel_rfl) ?_; conv => whnf)
      | (refine And.intro (by decide) ?_; conv => whnf)
      | (refine And.intro (fun _ => ?_) (fun h => absurd h (by decide)); conv => whnf)
      | (refine And.intro (fun h => absurd h (by decide)) (fun _ => ?_); conv => whnf)
      | (refine And.intro (fun _ => ?_) (fun _ => ?_) <;> conv => whnf)
      | (refine ⟨_, _, ls.pu rfl rfl, ?_⟩; conv => whnf)
      | (refine ⟨_, _, hyn.pu rfl rfl, ?_⟩; conv => whnf)
      | (refine ⟨_, _, hy1.pu rfl rfl, ?_⟩; conv => whnf)
      | (refine ⟨_, _, upto_d 2 16 (by kernel_rfl) (by simp; omega), ?_⟩; conv => whnf)
      | (refine ⟨_, _, from_dz (s + 1) 2 16 (by kernel_rfl) hw (by simp; omega), ?_⟩; conv => whnf)
      | (refine ⟨_, _, apd 2 16 (by kernel_rfl) rfl (by simp; omega), ?_⟩; conv => whnf)))
    all_goals try (exfalso; simp only [decide_eq_true_eq, decide_eq_false_iff_not, Bool.not_eq_true', Bool.not_eq_false', Bool.not_eq_true, Bool.not_eq_false, beq_iff_eq, bne_iff_ne, beq_eq_false_iff_ne, bne_eq_false_iff_eq, ne_eq, Decidable.not_not] at *; first | omega | contradiction | (simp_all; done) | (simp_all; omega))
    all_goals try (refine Or.inl ?_; conv => whnf)
    repeat (any_goals (first
      | exact True.intro
      | (refine And.intro (fun _ => ?_) tf; conv => whnf)
      | (refine And.intro ft (fun _ => ?_); conv => whnf)
      | (refine And.intro (by kernel_rfl) ?_; conv => whnf)
      | (refine And.intro (by decide) ?_; conv => whnf)
      | (refine And.intro (fun _ => ?_) (fun h => absurd h (by decide)); conv => whnf)
      | (refine And.intro (fun h => absurd h (by decide)) (fun _ => ?_); conv => whnf)
      | (refine And.intro (fun _ => ?_) (fun _ => ?_) <;> conv => whnf)
      | (refine ⟨_, _, ls.pu rfl rfl, ?_⟩; conv => whnf)
      | (refine ⟨_, _, hyn.pu rfl rfl, ?_⟩; conv => whnf)
      | (refine ⟨_, _, hy1.pu rfl rfl, ?_⟩; conv => whnf)
      | (refine ⟨_, _, upto_d 2 16 (by kernel_rfl) (by simp; omega), ?_⟩; conv => whnf)
      | (refine ⟨_, _, from_dz (s + 1) 2 16 (by kernel_rfl) hw (by simp; omega), ?_⟩; conv => whnf)
      | (refine ⟨_, _, apd 2 16 (by kernel_rfl) rfl (by simp; omega), ?_⟩; conv => whnf)))
    all_goals try (exfalso; simp only [decide_eq_true_eq, decide_eq_false_iff_not, Bool.not_eq_true', Bool.not_eq_false', Bool.not_eq_true, Bool.not_eq_false, beq_iff_eq, bne_iff_ne, beq_eq_false_iff_ne, bne_eq_false_iff_eq, ne_eq, Decidable.not_not] at *; first | omega | contradiction | (simp_all; done) | (simp_all; omega))
    all_goals try (refine Or.inl ?_; conv => whnf)
    repeat (any_goals (first
      | exact True.intro
      | (refine And.intro (fun _ => ?_) tf; conv => whnf)
      | (refine And.intro ft (fun _ => ?_); conv => whnf)
      | (refine And.intro (by kernel_rfl) ?_; conv => whnf)
      | (refine And.intro (by decide) ?_; conv => whnf)
      | (refine And.intro (fun _ => ?_) (fun h => absurd h (by decide)); conv => whnf)
      | (refine And.intro (fun h => absurd h (by decide)) (fun _ => ?_); conv => whnf)
      | (refine And.intro (fun _ => ?_) (fun _ => ?_) <;> conv => whnf)
      | (refine ⟨_, _, ls.pu rfl rfl, ?_⟩; conv => whnf)
      | (refine ⟨_, _, hyn.pu rfl rfl, ?_⟩; conv => whnf)
      | (refine ⟨_, _, hy1.pu rfl rfl, ?_⟩; conv => whnf)
      | (refine ⟨_, _, upto_d 2 16 (by kernel_rfl) (by simp; omega), ?_⟩; conv => whnf)
      | (refine ⟨_, _, from_dz (s + 1) 2 16 (by kernel_rfl) hw (by simp; omega), ?_⟩; conv => whnf)
      | (refine ⟨_, _, apd 2 16 (by kernel_rfl) rfl (by simp; omega), ?_⟩; conv => whnf)))
    all_goals try (exfalso; simp only [decide_eq_true_eq, decide_eq_false_iff_not, Bool.not_eq_true', Bool.not_eq_false', Bool.not_eq_true, Bool.not_eq_false, beq_iff_eq, bne_iff_ne, beq_eq_false_iff_ne, bne_eq_false_iff_eq, ne_eq, Decidable.not_not] at *; first | omega | contradiction | (simp_all; done) | (simp_all; omega))
    rw [HS.out s]
    repeat (any_goals (first
      | exact True.intro
      | (refine Or.inl ?_; conv => whnf)
      | (refine And.intro (fun _ => ?_) tf; conv => whnf)
      | (refine And.intro ft (fun _ => ?_); conv => whnf)
      | (refine And.intro (by kernel_rfl) ?_; conv => whnf)
      | (refine And.intro (by decide) ?_; conv => whnf)
      | (refine And.intro (fun _ => ?_) (fun h => absurd h (by decide)); conv => whnf)
      | (refine And.intro (fun h => absurd h (by decide)) (fun _ => ?_); conv => whnf)
      | (refine And.intro (fun _ => ?_) (fun _ => ?_) <;> conv => whnf)
      | (refine ⟨_, _, lend_b hl rfl rfl, ?_⟩; conv => whnf)))
    all_goals refine ⟨[], ?_⟩
    repeat (any_goals (first | exact True.intro | exact rfl | with_reducible_and_instances rfl | exact (by kernel_rfl) | refine And.intro ?_ ?_))
    all_goals conv => whnf
  · have hy1 := hyn1 h0
    clear hsub hyn1
    conv => whnf
    repeat (any_goals (first
      | exact True.intro
      | (refine And.intro (fun _ => ?_) tf; conv => whnf)
      | (refine And.intro ft (fun _ => ?_); conv => whnf)
      | (refine And.intro (by kernel_rfl) ?_; conv => whnf)
      | (refine And.intro (by decide) ?_; conv => whnf)
      | (refine And.intro (fun _ => ?_) (fun h => absurd h (by decide)); conv => whnf)
      | (refine And.intro (fun h => absurd h (by decide)) (fun _ => ?_); conv => whnf)
      | (refine And.intro (fun _ => ?_) (fun _ => ?_) <;> conv => whnf)
      | (refine ⟨_, _, ls.pu rfl rfl, ?_⟩; conv => whnf)
      | (refine ⟨_, _, hyn.pu rfl rfl, ?_⟩; conv => whnf)
      | (refine ⟨_, _, hy1.pu rfl rfl, ?_⟩; conv => whnf)))
    all_goals try (exfalso; simp only [decide_eq_true_eq, decide_eq_false_iff_not, Bool.not_eq_true', Bool.not_eq_false', Bool.not_eq_true, Bool.not_eq_false, beq_iff_eq, bne_iff_ne, beq_eq_false_iff_ne, bne_eq_false_iff_eq, ne_eq, Decidable.not_not] at *; first | omega | contradiction | (simp_all; done) | (simp_all; omega))
    all_goals try (refine Or.inl ?_; conv => whnf)
    repeat (any_goals (first
      | exact True.intro
      | (refine And.intro (fun _ => ?_) tf; conv => whnf)
      | (refine And.intro ft (fun _ => ?_); conv => whnf)
      | (refine And.intro (by kernel_rfl) ?_; conv => whnf)
      | (refine And.intro (by decide) ?_; conv => whnf)
      | (refine And.intro (fun _ => ?_) (fun h => absurd h (by decide)); conv => whnf)
      | (refine And.intro (fun h => absurd h (by decide)) (fun _ => ?_); conv => whnf)
      | (refine And.intro (fun _ => ?_) (fun _ => ?_) <;> conv => whnf)
      | (refine ⟨_, _, ls.pu rfl rfl, ?_⟩; conv => whnf)
      | (refine ⟨_, _, hyn.pu rfl rfl, ?_⟩; conv => whnf)
      | (refine ⟨_, _, hy1.pu rfl rfl, ?_⟩; conv => whnf)))
    all_goals try (exfalso; simp only [decide_eq_true_eq, decide_eq_false_iff_not, Bool.not_eq_true', Bool.not_eq_false', Bool.not_eq_true, Bool.not_eq_false, beq_iff_eq, bne_iff_ne, beq_eq_false_iff_ne, bne_eq_false_iff_eq, ne_eq, Decidable.not_not] at *; first | omega | contradiction | (simp_all; done) | (simp_all; omega))
    all_goals try (refine Or.inl ?_; conv => whnf)
    repeat (any_goals (first
      | exact True.intro
      | (refine And.intro (fun _ => ?_) tf; conv => whnf)
      | (refine And.intro ft (fun _ => ?_); conv => whnf)
      | (refine And.intro (by kernel_rfl) ?_; conv => whnf)
      | (refine And.intro (by decide) ?_; conv => whnf)
      | (refine And.intro (fun _ => ?_) (fun h => absurd h (by decide)); conv => whnf)
      | (refine And.intro (fun h => absurd h (by decide)) (fun _ => ?_); conv => whnf)
      | (refine And.intro (fun _ => ?_) (fun _ => ?_) <;> conv => whnf)
      | (refine ⟨_, _, ls.pu rfl rfl, ?_⟩; conv => whnf)
      | (refine ⟨_, _, hyn.pu rfl rfl, ?_⟩; conv => whnf)
      | (refine ⟨_, _, hy1.pu rfl rfl, ?_⟩; conv => whnf)))
    all_goals try (exfalso; simp only [decide_eq_true_eq, decide_eq_false_iff_not, Bool.not_eq_true', Bool.not_eq_false', Bool.not_eq_true, Bool.not_eq_false, beq_iff_eq, bne_iff_ne, beq_eq_false_iff_ne, bne_eq_false_iff_eq, ne_eq, Decidable.not_not] at *; first | omega | contradiction | (simp_all; done) | (simp_all; omega))
    all_goals refine ⟨[], ?_⟩
    repeat (any_goals (first | exact True.intro | exact rfl | with_reducible_and_instances rfl | exact (by kernel_rfl) | refine And.intro ?_ ?_))
    all_goals conv => whnf
theorem drates_law (H : Type) (enc : TypeId × Value → H) : LawWalk H enc Try.prog 10 Try.f10 :=
  lawWalk_of_sat (by kernel_rfl) fun args h => by
    obtain ⟨r, _, rfl, h1, h⟩ := h
    obtain ⟨m, _, rfl, h2, h⟩ := h
    obtain ⟨x, _, rfl, h3, h⟩ := h
    obtain ⟨s, _, rfl, h4, h⟩ := h
    obtain rfl := h
    obtain ⟨r, rfl, _⟩ := ty_i64 h1 Try.underlying2
    obtain ⟨m, rfl, _⟩ := ty_i64 h2 Try.underlying2
    obtain ⟨l, rfl, _⟩ := ty_pts h3
    obtain ⟨s, rfl, _⟩ := ty_int h4 Try.underlying3
    exact drates_sat r m l s
end Go.Proofs.Ytgidaifoiljgoaa
