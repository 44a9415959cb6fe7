/- clock.Clock.At, by its conditions. -/
import Derived.Test.YtgidaifoiljgoaaKa
namespace Go.Proofs.Ytgidaifoiljgoaa
set_option linter.unusedSimpArgs false
set_option linter.unusedVariables false
open Go.RowKit
set_option maxRecDepth 100000
def atC (s : CSt) (stamp : Int) : (Int × Int) × Nat :=
  if s.list = [] then ((0, 0), 19) else if isT stamp = false then ((0, 0), 11) else
    match s.list.find? (fun x => decide ((atR x stamp s.rho).2 ≠ 0)) with
    | some x => ((0, 0), (atR x stamp s.rho).2)
    | none => meetR (s.list.map fun x => (atR x stamp s.rho).1)
theorem map_get {α β : Type} {f : α → β} {l : List α} {k : Nat} {x : α} (h : l[k]? = some x) : (l.map f)[k]? = some (f x) := by rw [List.getElem?_map, h]; rfl
theorem find_hit {α : Type} {p : α → Bool} {l : List α} {k : Nat} {x : α} (hf : (l.take k).find? p = none) (hx : l[k]? = some x) (hp : p x = true) : l.find? p = some x := by
  obtain ⟨hl, rfl⟩ := List.getElem?_eq_some_iff.1 hx
  conv => lhs; rw [← List.take_append_drop k l]
  rw [List.find?_append, hf, List.drop_eq_getElem_cons hl, List.find?_cons_of_pos hp]; rfl
theorem find_next {α : Type} {p : α → Bool} {l : List α} {k : Nat} {x : α} (hf : (l.take k).find? p = none) (hx : l[k]? = some x) (hp : p x = false) : (l.take (k + 1)).find? p = none := by
  obtain ⟨hl, rfl⟩ := List.getElem?_eq_some_iff.1 hx
  rw [List.take_add_one, hx, List.find?_append, hf, Option.toList_some, List.find?_cons_of_neg (by simp [hp])]; rfl
theorem map_take_succ {α β : Type} {f : α → β} {l : List α} {k : Nat} {x : α} (hx : l[k]? = some x) : (l.take (k + 1)).map f = (l.take k).map f ++ [f x] := by
  rw [List.take_add_one, hx, List.map_append]; rfl
theorem clkAt_sat (s : CSt) (stamp : Int) (hn : s.list.length ≤ 8) : Sat Try.prog 19 [.ptr 0 0, iA stamp] (cH s) (.tup [gA (atC s stamp).1, iA (atC s stamp).2]) (cH s) := by
  have hl : (s.list.map sR).length ≤ 8 := by simpa using hn
  refine sat_of_vc (T := tiOf Try.prog) (E := E0) Try.func19 rfl rfl hE0 hm0 rfl ?_
  conv => whnf
  repeat (any_goals (first
    | exact True.intro
    | (refine Or.inl ?_; conv => whnf)
    | (refine And.intro (fun _ => ?_) tf; conv => whnf)
    | (refine And.intro ft (fun _ => ?_); conv => whnf)
    | (refine And.intro (by kernel_rfl) ?_; conv => whnf)
    | (refine And.intro (by decide) ?_; conv => whnf)
    | (refine And.intro (fun _ => ?_) (fun h => absurd h (by decide)); conv => whnf)
    | (refine And.intro (fun h => absurd h (by decide)) (fun _ => ?_); conv => whnf)
    | (refine And.intro (fun _ => ?_) (fun _ => ?_) <;> conv => whnf)
    | (refine ⟨_, _, (isTime_sat _).pu rfl rfl, ?_⟩; conv => whnf)
    | (refine ⟨_, _, mk0 2 16 (by kernel_rfl) (by omega) (by unfold maxLen; omega), ?_⟩; conv => whnf)))
  all_goals try (exfalso; simp only [decide_eq_true_eq, decide_eq_false_iff_not, Bool.not_eq_true', Bool.not_eq_false', Bool.not_eq_true, Bool.not_eq_false, beq_iff_eq, bne_iff_ne, beq_eq_false_iff_ne, bne_eq_false_iff_eq, ne_eq, Decidable.not_not] at *; first | omega | contradiction | (simp_all; done) | (simp_all; omega))
  · have h0 : s.list = [] := by simp_all
    have hr : atC s stamp = ((0, 0), 19) := by unfold atC; rw [if_pos h0]
    rw [hr]
    all_goals refine ⟨[], ?_⟩
    repeat (any_goals (first | exact True.intro | exact rfl | with_reducible_and_instances rfl | exact (by kernel_rfl) | refine And.intro ?_ ?_))
    all_goals conv => whnf
  · have h0 : s.list ≠ [] := by intro e; simp_all
    have hr : atC s stamp = ((0, 0), 11) := by unfold atC; rw [if_neg h0, if_pos (by simp_all)]
    rw [hr]
    all_goals refine ⟨[], ?_⟩
    repeat (any_goals (first | exact True.intro | exact rfl | with_reducible_and_instances rfl | exact (by kernel_rfl) | refine And.intro ?_ ?_))
    all_goals conv => whnf
  · have h0 : s.list ≠ [] := by intro e; simp_all
    have hst : isT stamp = true := by simp_all
    have hst' := of_decide_eq_true hst
    refine ⟨Nat, fun k => k ≤ s.list.length ∧ (s.list.take k).find? (fun x => decide ((atR x stamp s.rho).2 ≠ 0)) = none, fun k => ([(33, iA k), (32, iA (s.list.map sR).length), (31, .own 1), (6, .own 3), (5, iA 0), (4, .ptr 2 0), (0, .ptr 0 0), (1, iA stamp)], [cR s, .sl 4 (s.list.map sR), .cells [iA 0, iA 0], .sl 2 (((s.list.take k).map fun x => (atR x stamp s.rho).1).map gR)]), fun k => s.list.length - k, ⟨0, ⟨Nat.zero_le _, rfl⟩, ?_⟩, ?_⟩
    · all_goals refine ⟨[], ?_⟩
      repeat (any_goals (first | exact True.intro | exact rfl | with_reducible_and_instances rfl | exact (by kernel_rfl) | refine And.intro ?_ ?_))
      all_goals conv => whnf
    · rintro k ⟨hk, hf⟩
      by_cases hlt : k < s.list.length
      · have hx : s.list[k]? = some s.list[k] := List.getElem?_eq_getElem hlt
        repeat (any_goals (first
          | exact True.intro
          | (refine Or.inl ?_; conv => whnf)
          | (refine And.intro (fun _ => ?_) tf; conv => whnf)
          | (refine And.intro ft (fun _ => ?_); conv => whnf)
          | (refine And.intro (by kernel_rfl) ?_; conv => whnf)
          | (refine And.intro (by decide) ?_; conv => whnf)
          | (refine And.intro (fun _ => ?_) (fun h => absurd h (by decide)); conv => whnf)
          | (refine And.intro (fun h => absurd h (by decide)) (fun _ => ?_); conv => whnf)
          | (refine And.intro (fun _ => ?_) (fun h => absurd h (by simpa using hlt)); conv => whnf)
          | (refine ⟨_, rfl, by simpa using hlt, ?_⟩; conv => whnf)
          | (refine ⟨_, map_get hx, ?_⟩; conv => whnf)
          | (refine And.intro (fun _ => ?_) (fun _ => ?_) <;> conv => whnf)
          | (refine ⟨_, _, (at_sat _ _ _ (by omega) (by omega)).pu rfl rfl, ?_⟩; conv => whnf)
          | (refine ⟨_, _, ap 2 16 (by kernel_rfl) rfl rfl (by simp; unfold maxLen; omega), ?_⟩; conv => whnf)))
        all_goals try (exfalso; simp only [decide_eq_true_eq, decide_eq_false_iff_not, Bool.not_eq_true', Bool.not_eq_false', Bool.not_eq_true, Bool.not_eq_false, beq_iff_eq, bne_iff_ne, beq_eq_false_iff_ne, bne_eq_false_iff_eq, ne_eq, Decidable.not_not] at *; first | omega | contradiction | (simp_all; done) | (simp_all; omega))
        · have hr : atC s stamp = ((0, 0), (atR s.list[k] stamp s.rho).2) := by
            unfold atC
            rw [if_neg h0, if_neg (by simp [hst]), find_hit hf hx (by (try simp only [decide_eq_true_eq, decide_eq_false_iff_not, Bool.not_eq_true', Bool.not_eq_false', Bool.not_eq_true, Bool.not_eq_false, beq_iff_eq, bne_iff_ne, beq_eq_false_iff_ne, bne_eq_false_iff_eq, ne_eq, Decidable.not_not, Int.natCast_eq_zero] at *); first | omega | assumption | (simp_all; done) | (simp_all; omega))]
          rw [hr]
          all_goals refine ⟨[], ?_⟩
          repeat (any_goals (first | exact True.intro | exact rfl | with_reducible_and_instances rfl | exact (by kernel_rfl) | refine And.intro ?_ ?_))
          all_goals conv => whnf
        · repeat (any_goals (first
            | exact True.intro
            | (refine Or.inl ?_; conv => whnf)
            | (refine And.intro (fun _ => ?_) tf; conv => whnf)
            | (refine And.intro ft (fun _ => ?_); conv => whnf)
            | (refine And.intro (by kernel_rfl) ?_; conv => whnf)
            | (refine And.intro (by decide) ?_; conv => whnf)
            | (refine And.intro (fun _ => ?_) (fun h => absurd h (by decide)); conv => whnf)
            | (refine And.intro (fun h => absurd h (by decide)) (fun _ => ?_); conv => whnf)
            | (refine And.intro (fun _ => ?_) (fun _ => ?_) <;> conv => whnf)
            | (refine ⟨_, _, ap 2 16 (by kernel_rfl) rfl rfl (by simp; omega), ?_⟩; conv => whnf)))
          refine ⟨k + 1, ⟨hlt, find_next hf hx (by (try simp only [decide_eq_true_eq, decide_eq_false_iff_not, Bool.not_eq_true', Bool.not_eq_false', Bool.not_eq_true, Bool.not_eq_false, beq_iff_eq, bne_iff_ne, beq_eq_false_iff_ne, bne_eq_false_iff_eq, ne_eq, Decidable.not_not, Int.natCast_eq_zero] at *); first | omega | assumption | (simp_all; done) | (simp_all; omega))⟩, ?_, ?_⟩
          · show s.list.length - (k + 1) < s.list.length - k
            omega
          · all_goals refine ⟨[(3, 7)], ?_⟩
            repeat (any_goals (first | exact True.intro | exact rfl | with_reducible_and_instances rfl | exact (by kernel_rfl) | refine And.intro ?_ ?_))
            all_goals conv => whnf
            · exact wk1 (by omega)
            · rw [map_take_succ hx, List.map_append]; rfl
      · repeat (any_goals (first
          | exact True.intro
          | (refine Or.inl ?_; conv => whnf)
          | (refine And.intro (fun _ => ?_) tf; conv => whnf)
          | (refine And.intro ft (fun _ => ?_); conv => whnf)
          | (refine And.intro (by kernel_rfl) ?_; conv => whnf)
          | (refine And.intro (by decide) ?_; conv => whnf)
          | (refine And.intro (fun _ => ?_) (fun h => absurd h (by decide)); conv => whnf)
          | (refine And.intro (fun h => absurd h (by decide)) (fun _ => ?_); conv => whnf)
          | (refine And.intro (fun h => absurd h (by simpa using hlt)) (fun _ => ?_); conv => whnf)
          | (refine And.intro (fun _ => ?_) (fun _ => ?_) <;> conv => whnf)
          | (refine ⟨_, _, lendO (meet_sat _ (by simp; omega)) rfl rfl, ?_⟩; conv => whnf)))
        have hr : atC s stamp = meetR (s.list.map fun x => (atR x stamp s.rho).1) := by
          unfold atC
          rw [List.take_of_length_le (by omega)] at hf
          rw [if_neg h0, if_neg (by simp [hst]), hf]
        rw [hr]
        have hk' : s.list.take k = s.list := List.take_of_length_le (by omega)
        rw [hk']
        all_goals refine ⟨[], ?_⟩
        repeat (any_goals (first | exact True.intro | exact rfl | with_reducible_and_instances rfl | exact (by kernel_rfl) | refine And.intro ?_ ?_))
        all_goals conv => whnf
end Go.Proofs.Ytgidaifoiljgoaa
