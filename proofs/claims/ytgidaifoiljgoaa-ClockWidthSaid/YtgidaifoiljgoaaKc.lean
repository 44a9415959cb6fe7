/- clock.Clock.Add, by its conditions. -/
import Derived.Test.YtgidaifoiljgoaaKb
namespace Go.Proofs.Ytgidaifoiljgoaa
set_option linter.unusedSimpArgs false
set_option linter.unusedVariables false
open Go.RowKit
set_option maxRecDepth 100000
def gapOf (x : Smp) (stamp rho : Int) : Int × Int := if (atR x stamp rho).2 = 0 then (atR x stamp rho).1 else (1, 0)
def keepC (l : List Smp) : List Smp := if 8 < l.length then l.drop 1 else l
def addC (s : CSt) (x : Smp) : CSt × Nat :=
  if okS x = false then (s, 10) else
    let l := keepC (s.list ++ [x])
    if agreeB (l.map fun o => gapOf o x.sent s.rho) = true then
      let k := if s.streak < 9223372036854775807 then s.streak + 1 else s.streak
      (⟨s.rho, s.least, if s.least ≤ k then false else s.held, k, l⟩, 0)
    else (⟨s.rho, s.least, true, 0, if okG (gapOf x x.sent s.rho) = true then [x] else []⟩, 21)
theorem keep_pos (l : List Smp) (x : Smp) : 0 < (keepC (l ++ [x])).length := by unfold keepC; split <;> simp at * <;> omega
theorem keep_last (l : List Smp) (x : Smp) : (keepC (l ++ [x]))[(keepC (l ++ [x])).length - 1]? = some x := by
  unfold keepC
  split
  · rw [List.getElem?_drop, List.length_drop, List.length_append, List.length_singleton]
    simp at *
    rw [List.getElem?_append_right (by omega), show 1 + (l.length - 1) - l.length = 0 by omega]; rfl
  · rw [List.length_append, List.length_singleton, Nat.add_sub_cancel, List.getElem?_append_right (Nat.le_refl _), Nat.sub_self]; rfl
theorem delete1_sat (l : List Smp) (hn : 2 ≤ l.length) : Sat Try.prog 44 [.own 0, iA 0, iA 1] [.sl 4 (l.map sR)] (.own 1) [.dead, .sl 4 ((l.drop 1).map sR)] := by
  intro F ρ w vals En hv
  cases hv with | cons h0 hv =>
  cases h0 with | own h0 =>
  rename_i A n c
  cases hv with | cons h1 hv =>
  cases hv with | cons h2 hv =>
  cases hv with | nil =>
  obtain rfl := h1.v_out
  obtain rfl := h2.v_out
  obtain ⟨hh, e1, ⟨vs, how, hra, hs⟩, e3⟩ := En.rep 0 _ rfl rfl
  rw [h0] at e1; injection e1 with e1; subst e1
  obtain rfl := (flat_map sR_flat l).eq hra
  obtain ⟨g, off, cap, he, hlo, hlt, hnc, hcm, hroom, hx⟩ := how.open_ (by simp; omega)
  injection he with q1 q2 q3
  subst q1 q2 q3
  rw [List.length_map] at how ⊢
  refine (delete1_any g off l.length c 0 l w hn (by unfold maxLen at hcm; omega) how).mono ?_
  rintro e w' ⟨rfl, hw, hG⟩
  have hnone : hp [AObj.sl 4 (l.map sR)] 1 = none := rfl
  obtain ⟨S, K, E⟩ := En.swap (n := 1) (o' := .sl 4 ((l.drop 1).map sR)) (h' := .slice (some ⟨g, off, none⟩) (l.length - 1) c) (i := 0) rfl rfl h0 hnone hG (fun b hb => .inr hb) ⟨_, by rw [List.length_map, List.length_drop]; exact hw, (flat_map sR_flat (l.drop 1)).rds, fun r hr => by
    obtain ⟨x, _, rfl⟩ := List.mem_map.1 hr; rfl⟩
  have e : updF (updF (hp [AObj.sl 4 (l.map sR)]) 0 (some .dead)) 1 (some (.sl 4 ((l.drop 1).map sR))) = hp [.dead, .sl 4 ((l.drop 1).map sR)] := by
    funext i
    match i with
    | 0 => rfl
    | 1 => rfl
    | i + 2 => rfl
  rw [e] at S E
  exact ⟨_, rfl, F, _, S, K, E, .own (updF_same _ _ _)⟩
abbrev cH2 (s : CSt) : List AObj := [.cells [iA s.rho, iA s.least, bA s.held, iA s.streak, .own 2], .dead, .sl 4 (s.list.map sR)]
theorem add_sat (s : CSt) (x : Smp) (hn : s.list.length ≤ 8) (hs : -9223372036854775808 ≤ s.streak) : Sat Try.prog 15 [.ptr 0 0, sA x] (cH s) (iA (addC s x).2) (cH2 (addC s x).1) := by
  have hl : (s.list.map sR).length ≤ 8 := by simpa using hn
  refine sat_of_vc (T := tiOf Try.prog) (E := E0) Try.func15 rfl rfl hE0 hm0 rfl ?_
  conv => whnf
  repeat (any_goals (first
    | exact True.intro
    | (refine And.intro (fun _ => ?_) tf; conv => whnf)
    | (refine And.intro ft (fun _ => ?_); conv => whnf)
    | (refine And.intro (by kernel_rfl) ?_; conv => whnf)
    | (refine And.intro (by decide) ?_; conv => whnf)
    | (refine And.intro (fun _ => ?_) (fun h => absurd h (by decide)); conv => whnf)
    | (refine And.intro (fun h => absurd h (by decide)) (fun _ => ?_); conv => whnf)
    | (refine And.intro (fun _ => ?_) (fun _ => ?_) <;> conv => whnf)))
  all_goals try (refine Or.inl ?_; conv => whnf)
  repeat (any_goals (first
    | exact True.intro
    | (refine And.intro (fun _ => ?_) tf; conv => whnf)
    | (refine And.intro ft (fun _ => ?_); conv => whnf)
    | (refine And.intro (by kernel_rfl) ?_; conv => whnf)
    | (refine And.intro (by decide) ?_; conv => whnf)
    | (refine And.intro (fun _ => ?_) (fun h => absurd h (by decide)); conv => whnf)
    | (refine And.intro (fun h => absurd h (by decide)) (fun _ => ?_); conv => whnf)
    | (refine And.intro (fun _ => ?_) (fun _ => ?_) <;> conv => whnf)
    | (refine ⟨_, _, (right_sat _).pu rfl rfl, ?_⟩; conv => whnf)
    | (refine ⟨_, _, ap 4 32 (by kernel_rfl) rfl rfl (by simp; omega), ?_⟩; conv => whnf)))
  · have h0 : okS x = false := (by (try simp only [decide_eq_true_eq, decide_eq_false_iff_not, Bool.not_eq_true', Bool.not_eq_false', Bool.not_eq_true, Bool.not_eq_false, beq_iff_eq, bne_iff_ne, beq_eq_false_iff_ne, bne_eq_false_iff_eq, ne_eq, Decidable.not_not, Int.natCast_eq_zero] at *); first | omega | assumption | (simp_all; done) | (simp_all; omega))
    have hr : addC s x = (s, 10) := by unfold addC; rw [if_pos h0]
    rw [hr]
    all_goals refine ⟨[(1, 3), (2, 3)], ?_⟩
    repeat (any_goals (first | exact True.intro | exact rfl | with_reducible_and_instances rfl | exact (by kernel_rfl) | refine And.intro ?_ ?_))
    all_goals conv => whnf
  have h0 : okS x = true := (by (try simp only [decide_eq_true_eq, decide_eq_false_iff_not, Bool.not_eq_true', Bool.not_eq_false', Bool.not_eq_true, Bool.not_eq_false, beq_iff_eq, bne_iff_ne, beq_eq_false_iff_ne, bne_eq_false_iff_eq, ne_eq, Decidable.not_not, Int.natCast_eq_zero] at *); first | omega | assumption | (simp_all; done) | (simp_all; omega))
  have hT : 0 ≤ x.sent ∧ x.sent ≤ 4611686018427387903 := by simp [okS, isT] at h0; omega
  have hll : (keepC (s.list ++ [x])).length ≤ 8 := by unfold keepC; split <;> simp at * <;> omega
  refine Or.inr ⟨Unit, fun _ => True, fun _ => ([(0, .ptr 0 0), (3, .ptr 2 0)], [.cells [iA s.rho, iA s.least, bA s.held, iA s.streak, .own 3], .dead, .cells [iA x.asked, iA x.got, iA x.sent, iA x.came], .sl 4 ((keepC (s.list ++ [x])).map sR)]), ?_, fun _ _ => ?_⟩
  · conv => whnf
    repeat (any_goals (first
      | exact True.intro
      | (refine And.intro (fun _ => ?_) tf; conv => whnf)
      | (refine And.intro ft (fun _ => ?_); conv => whnf)
      | (refine And.intro (by kernel_rfl) ?_; conv => whnf)
      | (refine And.intro (by decide) ?_; conv => whnf)
      | (refine And.intro (fun _ => ?_) (fun h => absurd h (by decide)); conv => whnf)
      | (refine And.intro (fun h => absurd h (by decide)) (fun _ => ?_); conv => whnf)
      | (refine And.intro (fun _ => ?_) (fun _ => ?_) <;> conv => whnf)
      | (refine ⟨_, _, (delete1_sat (s.list ++ [x]) (by (try simp only [decide_eq_true_eq, decide_eq_false_iff_not, Bool.not_eq_true', Bool.not_eq_false', Bool.not_eq_true, Bool.not_eq_false, beq_iff_eq, bne_iff_ne, beq_eq_false_iff_ne, bne_eq_false_iff_eq, ne_eq, Decidable.not_not, Int.natCast_eq_zero] at *); first | omega | assumption | (simp_all; done) | (simp_all; omega))).at1 4 rfl rfl (by rw [List.map_append]; rfl), ?_⟩; conv => whnf)))
    · have hk : keepC (s.list ++ [x]) = (s.list ++ [x]).drop 1 := by unfold keepC; rw [if_pos (by simp at *; omega)]
      refine ⟨(), trivial, ?_⟩
      rw [hk]
      all_goals refine ⟨[(3, 5)], ?_⟩
      repeat (any_goals (first | exact True.intro | exact rfl | with_reducible_and_instances rfl | exact (by kernel_rfl) | refine And.intro ?_ ?_))
      all_goals conv => whnf
    · have hk : keepC (s.list ++ [x]) = s.list ++ [x] := by unfold keepC; rw [if_neg (by simp at *; omega)]
      refine ⟨(), trivial, ?_⟩
      rw [hk, List.map_append]
      all_goals refine ⟨[(3, 4)], ?_⟩
      repeat (any_goals (first | exact True.intro | exact rfl | with_reducible_and_instances rfl | exact (by kernel_rfl) | refine And.intro ?_ ?_))
      all_goals conv => whnf
  · generalize hkl : keepC (s.list ++ [x]) = l at *
    have hl' : (l.map sR).length ≤ 8 := by simpa using hll
    conv => whnf
    repeat (any_goals (first
      | exact True.intro
      | (refine And.intro (fun _ => ?_) tf; conv => whnf)
      | (refine And.intro ft (fun _ => ?_); conv => whnf)
      | (refine And.intro (by kernel_rfl) ?_; conv => whnf)
      | (refine And.intro (by decide) ?_; conv => whnf)
      | (refine And.intro (fun _ => ?_) (fun h => absurd h (by decide)); conv => whnf)
      | (refine And.intro (fun h => absurd h (by decide)) (fun _ => ?_); conv => whnf)
      | (refine And.intro (fun _ => ?_) (fun _ => ?_) <;> conv => whnf)
      | (refine ⟨_, _, mk0 2 16 (by kernel_rfl) (by omega) (by unfold maxLen; omega), ?_⟩; conv => whnf)))
    all_goals try (refine Or.inl ?_; conv => whnf)
    repeat (any_goals (first
      | exact True.intro
      | (refine And.intro (fun _ => ?_) tf; conv => whnf)
      | (refine And.intro ft (fun _ => ?_); conv => whnf)
      | (refine And.intro (by kernel_rfl) ?_; conv => whnf)
      | (refine And.intro (by decide) ?_; conv => whnf)
      | (refine And.intro (fun _ => ?_) (fun h => absurd h (by decide)); conv => whnf)
      | (refine And.intro (fun h => absurd h (by decide)) (fun _ => ?_); conv => whnf)
      | (refine And.intro (fun _ => ?_) (fun _ => ?_) <;> conv => whnf)))
    refine ⟨Nat, fun k => k ≤ l.length, fun k => ([(48, iA k), (47, iA (l.map sR).length), (46, .own 3), (5, .own 4), (0, .ptr 0 0), (3, .ptr 2 0)], [.cells [iA s.rho, iA s.least, bA s.held, iA s.streak, .own 3], .dead, .cells [iA x.asked, iA x.got, iA x.sent, iA x.came], .sl 4 (l.map sR), .sl 2 (((l.take k).map fun o => gapOf o x.sent s.rho).map gR)]), fun k => l.length - k, ⟨0, Nat.zero_le _, ?_⟩, ?_⟩
    · all_goals refine ⟨[], ?_⟩
      repeat (any_goals (first | exact True.intro | exact rfl | with_reducible_and_instances rfl | exact (by kernel_rfl) | refine And.intro ?_ ?_))
      all_goals conv => whnf
    rintro k hk
    by_cases hlt : k < l.length
    · conv => whnf
      have hx : l[k]? = some l[k] := List.getElem?_eq_getElem hlt
      repeat (any_goals (first
        | exact True.intro
        | (refine And.intro (fun _ => ?_) tf; conv => whnf)
        | (refine And.intro ft (fun _ => ?_); conv => whnf)
        | (refine And.intro (by kernel_rfl) ?_; conv => whnf)
        | (refine And.intro (by decide) ?_; conv => whnf)
        | (refine And.intro (fun _ => ?_) (fun h => absurd h (by decide)); conv => whnf)
        | (refine And.intro (fun h => absurd h (by decide)) (fun _ => ?_); conv => whnf)
        | (refine And.intro (fun _ => ?_) (fun h => absurd h (by simpa using hlt)); conv => whnf)
        | (refine And.intro (fun _ => ?_) (fun _ => ?_) <;> conv => whnf)))
      all_goals try (refine Or.inl ?_; conv => whnf)
      repeat (any_goals (first
        | exact True.intro
        | (refine And.intro (fun _ => ?_) tf; conv => whnf)
        | (refine And.intro ft (fun _ => ?_); conv => whnf)
        | (refine And.intro (by kernel_rfl) ?_; conv => whnf)
        | (refine And.intro (by decide) ?_; conv => whnf)
        | (refine And.intro (fun _ => ?_) (fun h => absurd h (by decide)); conv => whnf)
        | (refine And.intro (fun h => absurd h (by decide)) (fun _ => ?_); conv => whnf)
        | (refine And.intro (fun _ => ?_) (fun _ => ?_) <;> conv => whnf)))
      all_goals try (exfalso; simp only [decide_eq_true_eq, decide_eq_false_iff_not, Bool.not_eq_true', Bool.not_eq_false', Bool.not_eq_true, Bool.not_eq_false, beq_iff_eq, bne_iff_ne, beq_eq_false_iff_ne, bne_eq_false_iff_eq, ne_eq, Decidable.not_not] at *; first | omega | contradiction | (simp_all; done) | (simp_all; omega))
      all_goals try (refine Or.inl ?_; conv => whnf)
      repeat (any_goals (first
        | exact True.intro
        | (refine And.intro (fun _ => ?_) tf; conv => whnf)
        | (refine And.intro ft (fun _ => ?_); conv => whnf)
        | (refine And.intro (by kernel_rfl) ?_; conv => whnf)
        | (refine And.intro (by decide) ?_; conv => whnf)
        | (refine And.intro (fun _ => ?_) (fun h => absurd h (by decide)); conv => whnf)
        | (refine And.intro (fun h => absurd h (by decide)) (fun _ => ?_); conv => whnf)
        | (refine ⟨_, rfl, by simpa using hlt, ?_⟩; conv => whnf)
        | (refine ⟨_, map_get hx, ?_⟩; conv => whnf)
        | (refine And.intro (fun _ => ?_) (fun _ => ?_) <;> conv => whnf)
        | (refine ⟨_, _, (at_sat _ _ _ (by omega) (by omega)).pu rfl rfl, ?_⟩; conv => whnf)))
      refine Or.inr ⟨Unit, fun _ => True, fun _ => ([(48, iA k), (47, iA (l.map sR).length), (46, .own 3), (5, .own 4), (8, .ptr 6 0), (0, .ptr 0 0), (3, .ptr 2 0)], [.cells [iA s.rho, iA s.least, bA s.held, iA s.streak, .own 3], .dead, .cells [iA x.asked, iA x.got, iA x.sent, iA x.came], .sl 4 (l.map sR), .sl 2 (((l.take k).map fun o => gapOf o x.sent s.rho).map gR), .dead, .cells [iA (gapOf l[k] x.sent s.rho).1, iA (gapOf l[k] x.sent s.rho).2]]), ?_, fun _ _ => ?_⟩
      · conv => whnf
        repeat (any_goals (first
          | exact True.intro
          | (refine And.intro (fun _ => ?_) tf; conv => whnf)
          | (refine And.intro ft (fun _ => ?_); conv => whnf)
          | (refine And.intro (by kernel_rfl) ?_; conv => whnf)
          | (refine And.intro (by decide) ?_; conv => whnf)
          | (refine And.intro (fun _ => ?_) (fun h => absurd h (by decide)); conv => whnf)
          | (refine And.intro (fun h => absurd h (by decide)) (fun _ => ?_); conv => whnf)
          | (refine And.intro (fun _ => ?_) (fun _ => ?_) <;> conv => whnf)))
        · have hg : gapOf l[k] x.sent s.rho = (1, 0) := by unfold gapOf; rw [if_neg (by (try simp only [decide_eq_true_eq, decide_eq_false_iff_not, Bool.not_eq_true', Bool.not_eq_false', Bool.not_eq_true, Bool.not_eq_false, beq_iff_eq, bne_iff_ne, beq_eq_false_iff_ne, bne_eq_false_iff_eq, ne_eq, Decidable.not_not, Int.natCast_eq_zero] at *); first | omega | assumption | (simp_all; done) | (simp_all; omega))]
          refine ⟨(), trivial, ?_⟩
          rw [hg]
          all_goals refine ⟨[], ?_⟩
          repeat (any_goals (first | exact True.intro | exact rfl | with_reducible_and_instances rfl | exact (by kernel_rfl) | refine And.intro ?_ ?_))
          all_goals conv => whnf
        · have hg : gapOf l[k] x.sent s.rho = (atR l[k] x.sent s.rho).1 := by unfold gapOf; rw [if_pos (by (try simp only [decide_eq_true_eq, decide_eq_false_iff_not, Bool.not_eq_true', Bool.not_eq_false', Bool.not_eq_true, Bool.not_eq_false, beq_iff_eq, bne_iff_ne, beq_eq_false_iff_ne, bne_eq_false_iff_eq, ne_eq, Decidable.not_not, Int.natCast_eq_zero] at *); first | omega | assumption | (simp_all; done) | (simp_all; omega))]
          refine ⟨(), trivial, ?_⟩
          rw [hg]
          all_goals refine ⟨[], ?_⟩
          repeat (any_goals (first | exact True.intro | exact rfl | with_reducible_and_instances rfl | exact (by kernel_rfl) | refine And.intro ?_ ?_))
          all_goals conv => whnf
      · conv => whnf
        repeat (any_goals (first
          | exact True.intro
          | (refine And.intro (fun _ => ?_) tf; conv => whnf)
          | (refine And.intro ft (fun _ => ?_); conv => whnf)
          | (refine And.intro (by kernel_rfl) ?_; conv => whnf)
          | (refine And.intro (by decide) ?_; conv => whnf)
          | (refine And.intro (fun _ => ?_) (fun h => absurd h (by decide)); conv => whnf)
          | (refine And.intro (fun h => absurd h (by decide)) (fun _ => ?_); conv => whnf)
          | (refine And.intro (fun _ => ?_) (fun _ => ?_) <;> conv => whnf)
          | (refine ⟨_, _, ap 2 16 (by kernel_rfl) rfl rfl (by simp; omega), ?_⟩; conv => whnf)))
        refine ⟨k + 1, hlt, show l.length - (k + 1) < l.length - k by omega, ?_⟩
        all_goals refine ⟨[(4, 8)], ?_⟩
        repeat (any_goals (first | exact True.intro | exact rfl | with_reducible_and_instances rfl | exact (by kernel_rfl) | refine And.intro ?_ ?_))
        all_goals conv => whnf
        · exact wk1 (by omega)
        · rw [map_take_succ hx, List.map_append]; rfl
    · have hkk : k = l.length := by omega
      subst hkk
      conv => whnf
      repeat (any_goals (first
        | exact True.intro
        | (refine And.intro (fun _ => ?_) tf; conv => whnf)
        | (refine And.intro ft (fun _ => ?_); conv => whnf)
        | (refine And.intro (by kernel_rfl) ?_; conv => whnf)
        | (refine And.intro (by decide) ?_; conv => whnf)
        | (refine And.intro (fun _ => ?_) (fun h => absurd h (by decide)); conv => whnf)
        | (refine And.intro (fun h => absurd h (by decide)) (fun _ => ?_); conv => whnf)
        | (refine And.intro (fun h => absurd h (by simpa using hlt)) (fun _ => ?_); conv => whnf)
        | (refine And.intro (fun _ => ?_) (fun _ => ?_) <;> conv => whnf)))
      all_goals try (refine Or.inl ?_; conv => whnf)
      repeat (any_goals (first
        | exact True.intro
        | (refine And.intro (fun _ => ?_) tf; conv => whnf)
        | (refine And.intro ft (fun _ => ?_); conv => whnf)
        | (refine And.intro (by kernel_rfl) ?_; conv => whnf)
        | (refine And.intro (by decide) ?_; conv => whnf)
        | (refine And.intro (fun _ => ?_) (fun h => absurd h (by decide)); conv => whnf)
        | (refine And.intro (fun h => absurd h (by decide)) (fun _ => ?_); conv => whnf)
        | (refine And.intro (fun _ => ?_) (fun _ => ?_) <;> conv => whnf)))
      all_goals try (exfalso; simp only [decide_eq_true_eq, decide_eq_false_iff_not, Bool.not_eq_true', Bool.not_eq_false', Bool.not_eq_true, Bool.not_eq_false, beq_iff_eq, bne_iff_ne, beq_eq_false_iff_ne, bne_eq_false_iff_eq, ne_eq, Decidable.not_not] at *; first | omega | contradiction | (simp_all; done) | (simp_all; omega))
      all_goals try (refine Or.inl ?_; conv => whnf)
      repeat (any_goals (first
        | exact True.intro
        | (refine And.intro (fun _ => ?_) tf; conv => whnf)
        | (refine And.intro ft (fun _ => ?_); conv => whnf)
        | (refine And.intro (by kernel_rfl) ?_; conv => whnf)
        | (refine And.intro (by decide) ?_; conv => whnf)
        | (refine And.intro (fun _ => ?_) (fun h => absurd h (by decide)); conv => whnf)
        | (refine And.intro (fun h => absurd h (by decide)) (fun _ => ?_); conv => whnf)
        | (refine And.intro (fun _ => ?_) (fun _ => ?_) <;> conv => whnf)
        | (refine ⟨_, _, lendO (agree_sat _ (by simp; omega)) rfl rfl, ?_⟩; conv => whnf)))
      · have hag : agreeB (l.map fun o => gapOf o x.sent s.rho) = true := by rename_i h; rw [List.take_length] at h; exact h
        have hr : addC s x = (⟨s.rho, s.least, if s.least ≤ (if s.streak < 9223372036854775807 then s.streak + 1 else s.streak) then false else s.held, if s.streak < 9223372036854775807 then s.streak + 1 else s.streak, l⟩, 0) := by
          unfold addC
          rw [if_neg (by simp [h0]), hkl, if_pos hag]
        rw [hr]
        by_cases c1 : s.streak < 9223372036854775807
        · have hw : IntKind.i64.wrap (s.streak + 1) = s.streak + 1 := wi (by omega) (by omega)
          rw [if_pos c1]
          by_cases c2 : s.least ≤ s.streak + 1
          · rw [if_pos c2]
            all_goals try (refine Or.inl ?_; conv => whnf)
            repeat (any_goals (first
              | exact True.intro
              | (refine Or.inl ?_; conv => whnf)
              | (refine And.intro (fun _ => ?_) tf; conv => whnf)
              | (refine And.intro ft (fun _ => ?_); conv => whnf)
              | (refine And.intro (by kernel_rfl) ?_; conv => whnf)
              | (refine And.intro (by decide) ?_; conv => whnf)
              | (refine And.intro (fun _ => ?_) (fun h => absurd h (by decide)); conv => whnf)
              | (refine And.intro (fun h => absurd h (by decide)) (fun _ => ?_); conv => whnf)
              | (refine And.intro (fun _ => ?_) (fun _ => ?_) <;> conv => whnf)))
            all_goals try (exfalso; simp only [decide_eq_true_eq, decide_eq_false_iff_not, Bool.not_eq_true', Bool.not_eq_false', Bool.not_eq_true, Bool.not_eq_false, beq_iff_eq, bne_iff_ne, beq_eq_false_iff_ne, bne_eq_false_iff_eq, ne_eq, Decidable.not_not] at *; first | omega | contradiction | (simp_all; done) | (simp_all; omega))
            all_goals refine ⟨[(2, 3)], ?_⟩
            repeat (any_goals (first | exact True.intro | exact rfl | with_reducible_and_instances rfl | exact (by kernel_rfl) | refine And.intro ?_ ?_))
            all_goals conv => whnf
            rw [hw]
          · rw [if_neg c2]
            all_goals try (refine Or.inl ?_; conv => whnf)
            repeat (any_goals (first
              | exact True.intro
              | (refine Or.inl ?_; conv => whnf)
              | (refine And.intro (fun _ => ?_) tf; conv => whnf)
              | (refine And.intro ft (fun _ => ?_); conv => whnf)
              | (refine And.intro (by kernel_rfl) ?_; conv => whnf)
              | (refine And.intro (by decide) ?_; conv => whnf)
              | (refine And.intro (fun _ => ?_) (fun h => absurd h (by decide)); conv => whnf)
              | (refine And.intro (fun h => absurd h (by decide)) (fun _ => ?_); conv => whnf)
              | (refine And.intro (fun _ => ?_) (fun _ => ?_) <;> conv => whnf)))
            all_goals try (exfalso; simp only [decide_eq_true_eq, decide_eq_false_iff_not, Bool.not_eq_true', Bool.not_eq_false', Bool.not_eq_true, Bool.not_eq_false, beq_iff_eq, bne_iff_ne, beq_eq_false_iff_ne, bne_eq_false_iff_eq, ne_eq, Decidable.not_not] at *; first | omega | contradiction | (simp_all; done) | (simp_all; omega))
            all_goals refine ⟨[(2, 3)], ?_⟩
            repeat (any_goals (first | exact True.intro | exact rfl | with_reducible_and_instances rfl | exact (by kernel_rfl) | refine And.intro ?_ ?_))
            all_goals conv => whnf
            rw [hw]
        · rw [if_neg c1]
          by_cases c2 : s.least ≤ s.streak
          · rw [if_pos c2]
            all_goals try (refine Or.inl ?_; conv => whnf)
            repeat (any_goals (first
              | exact True.intro
              | (refine Or.inl ?_; conv => whnf)
              | (refine And.intro (fun _ => ?_) tf; conv => whnf)
              | (refine And.intro ft (fun _ => ?_); conv => whnf)
              | (refine And.intro (by kernel_rfl) ?_; conv => whnf)
              | (refine And.intro (by decide) ?_; conv => whnf)
              | (refine And.intro (fun _ => ?_) (fun h => absurd h (by decide)); conv => whnf)
              | (refine And.intro (fun h => absurd h (by decide)) (fun _ => ?_); conv => whnf)
              | (refine And.intro (fun _ => ?_) (fun _ => ?_) <;> conv => whnf)))
            all_goals try (exfalso; simp only [decide_eq_true_eq, decide_eq_false_iff_not, Bool.not_eq_true', Bool.not_eq_false', Bool.not_eq_true, Bool.not_eq_false, beq_iff_eq, bne_iff_ne, beq_eq_false_iff_ne, bne_eq_false_iff_eq, ne_eq, Decidable.not_not] at *; first | omega | contradiction | (simp_all; done) | (simp_all; omega))
            all_goals refine ⟨[(2, 3)], ?_⟩
            repeat (any_goals (first | exact True.intro | exact rfl | with_reducible_and_instances rfl | exact (by kernel_rfl) | refine And.intro ?_ ?_))
            all_goals conv => whnf
          · rw [if_neg c2]
            all_goals try (refine Or.inl ?_; conv => whnf)
            repeat (any_goals (first
              | exact True.intro
              | (refine Or.inl ?_; conv => whnf)
              | (refine And.intro (fun _ => ?_) tf; conv => whnf)
              | (refine And.intro ft (fun _ => ?_); conv => whnf)
              | (refine And.intro (by kernel_rfl) ?_; conv => whnf)
              | (refine And.intro (by decide) ?_; conv => whnf)
              | (refine And.intro (fun _ => ?_) (fun h => absurd h (by decide)); conv => whnf)
              | (refine And.intro (fun h => absurd h (by decide)) (fun _ => ?_); conv => whnf)
              | (refine And.intro (fun _ => ?_) (fun _ => ?_) <;> conv => whnf)))
            all_goals try (exfalso; simp only [decide_eq_true_eq, decide_eq_false_iff_not, Bool.not_eq_true', Bool.not_eq_false', Bool.not_eq_true, Bool.not_eq_false, beq_iff_eq, bne_iff_ne, beq_eq_false_iff_ne, bne_eq_false_iff_eq, ne_eq, Decidable.not_not] at *; first | omega | contradiction | (simp_all; done) | (simp_all; omega))
            all_goals refine ⟨[(2, 3)], ?_⟩
            repeat (any_goals (first | exact True.intro | exact rfl | with_reducible_and_instances rfl | exact (by kernel_rfl) | refine And.intro ?_ ?_))
            all_goals conv => whnf
      · have hag : ¬ agreeB (l.map fun o => gapOf o x.sent s.rho) = true := by rename_i h; rw [List.take_length] at h; simp [h]
        have hr : addC s x = (⟨s.rho, s.least, true, 0, if okG (gapOf x x.sent s.rho) = true then [x] else []⟩, 21) := by
          unfold addC
          rw [if_neg (by simp [h0]), hkl, if_neg hag]
        rw [hr]
        have hlast : (((l.take l.length).map fun o => gapOf o x.sent s.rho).map gR)[l.length - 1]? = some (gR (gapOf x x.sent s.rho)) := by
          rw [List.take_length]
          refine map_get (map_get ?_)
          subst hkl
          exact keep_last _ _
        have hpos : 0 < l.length := by subst hkl; exact keep_pos _ _
        have hw : IntKind.i64.wrap (((((l.take l.length).map fun o => gapOf o x.sent s.rho).map gR).length : Int) - 1) = ((l.length - 1 : Nat) : Int) := by
          rw [List.length_map, List.length_map, List.take_length, wi (by omega) (by omega)]; omega
        by_cases hg : okG (gapOf x x.sent s.rho) = true
        · rw [if_pos hg]
          all_goals try (refine Or.inl ?_; conv => whnf)
          repeat (any_goals (first
            | exact True.intro
            | (refine And.intro (fun _ => ?_) tf; conv => whnf)
            | (refine And.intro ft (fun _ => ?_); conv => whnf)
            | (refine And.intro (by kernel_rfl) ?_; conv => whnf)
            | (refine And.intro (by decide) ?_; conv => whnf)
            | (refine And.intro (fun _ => ?_) (fun h => absurd h (by decide)); conv => whnf)
            | (refine And.intro (fun h => absurd h (by decide)) (fun _ => ?_); conv => whnf)
            | (refine ⟨l.length - 1, hw, by simp; omega, ?_⟩; conv => whnf)
            | (refine ⟨_, hlast, ?_⟩; conv => whnf)
            | (refine And.intro (fun _ => ?_) (fun _ => ?_) <;> conv => whnf)
            | (refine ⟨_, _, (gapRight_sat _).pu rfl rfl, ?_⟩; conv => whnf)))
          all_goals try (refine Or.inl ?_; conv => whnf)
          repeat (any_goals (first
            | exact True.intro
            | (refine And.intro (fun _ => ?_) tf; conv => whnf)
            | (refine And.intro ft (fun _ => ?_); conv => whnf)
            | (refine And.intro (by kernel_rfl) ?_; conv => whnf)
            | (refine And.intro (by decide) ?_; conv => whnf)
            | (refine And.intro (fun _ => ?_) (fun h => absurd h (by decide)); conv => whnf)
            | (refine And.intro (fun h => absurd h (by decide)) (fun _ => ?_); conv => whnf)
            | (refine And.intro (fun _ => ?_) (fun _ => ?_) <;> conv => whnf)))
          all_goals try (exfalso; simp only [decide_eq_true_eq, decide_eq_false_iff_not, Bool.not_eq_true', Bool.not_eq_false', Bool.not_eq_true, Bool.not_eq_false, beq_iff_eq, bne_iff_ne, beq_eq_false_iff_ne, bne_eq_false_iff_eq, ne_eq, Decidable.not_not] at *; first | omega | contradiction | (simp_all; done) | (simp_all; omega))
          all_goals refine ⟨[(2, 5)], ?_⟩
          repeat (any_goals (first | exact True.intro | exact rfl | with_reducible_and_instances rfl | exact (by kernel_rfl) | refine And.intro ?_ ?_))
          all_goals conv => whnf
        · rw [if_neg hg]
          all_goals try (refine Or.inl ?_; conv => whnf)
          repeat (any_goals (first
            | exact True.intro
            | (refine And.intro (fun _ => ?_) tf; conv => whnf)
            | (refine And.intro ft (fun _ => ?_); conv => whnf)
            | (refine And.intro (by kernel_rfl) ?_; conv => whnf)
            | (refine And.intro (by decide) ?_; conv => whnf)
            | (refine And.intro (fun _ => ?_) (fun h => absurd h (by decide)); conv => whnf)
            | (refine And.intro (fun h => absurd h (by decide)) (fun _ => ?_); conv => whnf)
            | (refine ⟨l.length - 1, hw, by simp; omega, ?_⟩; conv => whnf)
            | (refine ⟨_, hlast, ?_⟩; conv => whnf)
            | (refine And.intro (fun _ => ?_) (fun _ => ?_) <;> conv => whnf)
            | (refine ⟨_, _, (gapRight_sat _).pu rfl rfl, ?_⟩; conv => whnf)))
          all_goals try (refine Or.inl ?_; conv => whnf)
          repeat (any_goals (first
            | exact True.intro
            | (refine And.intro (fun _ => ?_) tf; conv => whnf)
            | (refine And.intro ft (fun _ => ?_); conv => whnf)
            | (refine And.intro (by kernel_rfl) ?_; conv => whnf)
            | (refine And.intro (by decide) ?_; conv => whnf)
            | (refine And.intro (fun _ => ?_) (fun h => absurd h (by decide)); conv => whnf)
            | (refine And.intro (fun h => absurd h (by decide)) (fun _ => ?_); conv => whnf)
            | (refine And.intro (fun _ => ?_) (fun _ => ?_) <;> conv => whnf)))
          all_goals try (exfalso; simp only [decide_eq_true_eq, decide_eq_false_iff_not, Bool.not_eq_true', Bool.not_eq_false', Bool.not_eq_true, Bool.not_eq_false, beq_iff_eq, bne_iff_ne, beq_eq_false_iff_ne, bne_eq_false_iff_eq, ne_eq, Decidable.not_not] at *; first | omega | contradiction | (simp_all; done) | (simp_all; omega))
          all_goals refine ⟨[(2, 2)], ?_⟩
          repeat (any_goals (first | exact True.intro | exact rfl | with_reducible_and_instances rfl | exact (by kernel_rfl) | refine And.intro ?_ ?_))
          all_goals conv => whnf
end Go.Proofs.Ytgidaifoiljgoaa
