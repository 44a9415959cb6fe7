/- Parts Kc, Kd, Rn, Ro, Ke, Kf of the proof, put together. -/
import Derived.Test.YtgidaifoiljgoaaM7
/- clock.Clock.Add, by its conditions. -/
namespace Go.Proofs.Ytgidaifoiljgoaa
set_option linter.unusedSimpArgs false
set_option linter.unusedVariables false
open Go.RowKit
set_option maxRecDepth 100000
def gapOf (x : Smp) (stamp rho : Int) : Int × Int := if (atR x stamp rho).2 = 0 then (atR x stamp rho).1 else (1, 0)
def keepC (l : List Smp) : List Smp := if 8 < l.length then l.drop 1 else l
def addC (s : CSt) (x : Smp) : CSt × Nat :=
  if okS x = false then (s, 10) else
    let l := keepC (s.list ++ [x])
    if agreeB (l.map fun o => gapOf o x.sent s.rho) = true then
      let k := if s.streak < 9223372036854775807 then s.streak + 1 else s.streak
      (⟨s.rho, s.least, if s.least ≤ k then false else s.held, k, l⟩, 0)
    else (⟨s.rho, s.least, true, 0, if okG (gapOf x x.sent s.rho) = true then [x] else []⟩, 21)
theorem keep_pos (l : List Smp) (x : Smp) : 0 < (keepC (l ++ [x])).length := by unfold keepC; split <;> simp at * <;> omega
theorem keep_last (l : List Smp) (x : Smp) : (keepC (l ++ [x]))[(keepC (l ++ [x])).length - 1]? = some x := by
  unfold keepC
  split
  · rw [List.getElem?_drop, List.length_drop, List.length_append, List.length_singleton]
    simp at *
    rw [List.getElem?_append_right (by omega), show 1 + (l.length - 1) - l.length = 0 by omega]; rfl
  · rw [List.length_append, List.length_singleton, Nat.add_sub_cancel, List.getElem?_append_right (Nat.le_refl _), Nat.sub_self]; rfl
theorem delete1_sat (l : List Smp) (hn : 2 ≤ l.length) : Sat Try.prog 44 [.own 0, iA 0, iA 1] [.sl 4 (l.map sR)] (.own 1) [.dead, .sl 4 ((l.drop 1).map sR)] := by
  intro F ρ w vals En hv
  cases hv with | cons h0 hv =>
  cases h0 with | own h0 =>
  rename_i A n c
  cases hv with | cons h1 hv =>
  cases hv with | cons h2 hv =>
  cases hv with | nil =>
  obtain rfl := h1.v_out
  obtain rfl := h2.v_out
  obtain ⟨hh, e1, ⟨vs, how, hra, hs⟩, e3⟩ := En.rep 0 _ rfl rfl
  rw [h0] at e1; injection e1 with e1; subst e1
  obtain rfl := (flat_map sR_flat l).eq hra
  obtain ⟨g, off, cap, he, hlo, hlt, hnc, hcm, hroom, hx⟩ := how.open_ (by simp; omega)
  injection he with q1 q2 q3
  subst q1 q2 q3
  rw [List.length_map] at how ⊢
  refine (delete1_any g off l.length c 0 l w hn (by unfold maxLen at hcm; omega) how).mono ?_
  rintro e w' ⟨rfl, hw, hG⟩
  have hnone : hp [AObj.sl 4 (l.map sR)] 1 = none := rfl
  obtain ⟨S, K, E⟩ := En.swap (n := 1) (o' := .sl 4 ((l.drop 1).map sR)) (h' := .slice (some ⟨g, off, none⟩) (l.length - 1) c) (i := 0) rfl rfl h0 hnone hG (fun b hb => .inr hb) ⟨_, by rw [List.length_map, List.length_drop]; exact hw, (flat_map sR_flat (l.drop 1)).rds, fun r hr => by
    obtain ⟨x, _, rfl⟩ := List.mem_map.1 hr; rfl⟩
  have e : updF (updF (hp [AObj.sl 4 (l.map sR)]) 0 (some .dead)) 1 (some (.sl 4 ((l.drop 1).map sR))) = hp [.dead, .sl 4 ((l.drop 1).map sR)] := by
    funext i
    match i with
    | 0 => rfl
    | 1 => rfl
    | i + 2 => rfl
  rw [e] at S E
  exact ⟨_, rfl, F, _, S, K, E, .own (updF_same _ _ _)⟩
abbrev cH2 (s : CSt) : List AObj := [.cells [iA s.rho, iA s.least, bA s.held, iA s.streak, .own 2], .dead, .sl 4 (s.list.map sR)]
theorem add_sat (s : CSt) (x : Smp) (hn : s.list.length ≤ 8) (hs : -9223372036854775808 ≤ s.streak) : Sat Try.prog 15 [.ptr 0 0, sA x] (cH s) (iA (addC s x).2) (cH2 (addC s x).1) := by
  have hl : (s.list.map sR).length ≤ 8 := by simpa using hn
  refine sat_of_vc (T := tiOf Try.prog) (E := E0) Try.func15 rfl rfl hE0 hm0 rfl ?_
  conv => whnf
  repeat (any_goals (first
    | exact True.intro
    | (refine And.intro (fun _ => ?_) tf; conv => whnf)
    | (refine And.intro ft (fun _ => ?_); conv => whnf)
    | (refine And.intro (by kernel_rfl) ?_; conv => whnf)
    | (refine And.intro (by decide) ?_; conv => whnf)
    | (refine And.intro (fun _ => ?_) (fun h => absurd h (by decide)); conv => whnf)
    | (refine And.intro (fun h => absurd h (by decide)) (fun _ => ?_); conv => whnf)
    | (refine And.intro (fun _ => ?_) (fun _ => ?_) <;> conv => whnf)))
  all_goals try (refine Or.inl ?_; conv => whnf)
  repeat (any_goals (first
    | exact True.intro
    | (refine And.intro (fun _ => ?_) tf; conv => whnf)
    | (refine And.intro ft (fun _ => ?_); conv => whnf)
    | (refine And.intro (by kernel_rfl) ?_; conv => whnf)
    | (refine And.intro (by decide) ?_; conv => whnf)
    | (refine And.intro (fun _ => ?_) (fun h => absurd h (by decide)); conv => whnf)
    | (refine And.intro (fun h => absurd h (by decide)) (fun _ => ?_); conv => whnf)
    | (refine And.intro (fun _ => ?_) (fun _ => ?_) <;> conv => whnf)
    | (refine ⟨_, _, (right_sat _).pu rfl rfl, ?_⟩; conv => whnf)
    | (refine ⟨_, _, ap 4 32 (by kernel_rfl) rfl rfl (by simp; omega), ?_⟩; conv => whnf)))
  · have h0 : okS x = false := (by (try simp only [decide_eq_true_eq, decide_eq_false_iff_not, Bool.not_eq_true', Bool.not_eq_false', Bool.not_eq_true, Bool.not_eq_false, beq_iff_eq, bne_iff_ne, beq_eq_false_iff_ne, bne_eq_false_iff_eq, ne_eq, Decidable.not_not, Int.natCast_eq_zero] at *); first | omega | assumption | (simp_all; done) | (simp_all; omega))
    have hr : addC s x = (s, 10) := by unfold addC; rw [if_pos h0]
    rw [hr]
    all_goals refine ⟨[(1, 3), (2, 3)], ?_⟩
    repeat (any_goals (first | exact True.intro | exact rfl | with_reducible_and_instances rfl | exact (by kernel_rfl) | refine And.intro ?_ ?_))
    all_goals conv => whnf
  have h0 : okS x = true := (by (try simp only [decide_eq_true_eq, decide_eq_false_iff_not, Bool.not_eq_true', Bool.not_eq_false', Bool.not_eq_true, Bool.not_eq_false, beq_iff_eq, bne_iff_ne, beq_eq_false_iff_ne, bne_eq_false_iff_eq, ne_eq, Decidable.not_not, Int.natCast_eq_zero] at *); first | omega | assumption | (simp_all; done) | (simp_all; omega))
  have hT : 0 ≤ x.sent ∧ x.sent ≤ 4611686018427387903 := by simp [okS, isT] at h0; omega
  have hll : (keepC (s.list ++ [x])).length ≤ 8 := by unfold keepC; split <;> simp at * <;> omega
  refine Or.inr ⟨Unit, fun _ => True, fun _ => ([(0, .ptr 0 0), (3, .ptr 2 0)], [.cells [iA s.rho, iA s.least, bA s.held, iA s.streak, .own 3], .dead, .cells [iA x.asked, iA x.got, iA x.sent, iA x.came], .sl 4 ((keepC (s.list ++ [x])).map sR)]), ?_, fun _ _ => ?_⟩
  · conv => whnf
    repeat (any_goals (first
      | exact True.intro
      | (refine And.intro (fun _ => ?_) tf; conv => whnf)
      | (refine And.intro ft (fun _ => ?_); conv => whnf)
      | (refine And.intro (by kernel_rfl) ?_; conv => whnf)
      | (refine And.intro (by decide) ?_; conv => whnf)
      | (refine And.intro (fun _ => ?_) (fun h => absurd h (by decide)); conv => whnf)
      | (refine And.intro (fun h => absurd h (by decide)) (fun _ => ?_); conv => whnf)
      | (refine And.intro (fun _ => ?_) (fun _ => ?_) <;> conv => whnf)
      | (refine ⟨_, _, (delete1_sat (s.list ++ [x]) (by (try simp only [decide_eq_true_eq, decide_eq_false_iff_not, Bool.not_eq_true', Bool.not_eq_false', Bool.not_eq_true, Bool.not_eq_false, beq_iff_eq, bne_iff_ne, beq_eq_false_iff_ne, bne_eq_false_iff_eq, ne_eq, Decidable.not_not, Int.natCast_eq_zero] at *); first | omega | assumption | (simp_all; done) | (simp_all; omega))).at1 4 rfl rfl (by rw [List.map_append]; rfl), ?_⟩; conv => whnf)))
    · have hk : keepC (s.list ++ [x]) = (s.list ++ [x]).drop 1 := by unfold keepC; rw [if_pos (by simp at *; omega)]
      refine ⟨(), trivial, ?_⟩
      rw [hk]
      all_goals refine ⟨[(3, 5)], ?_⟩
      repeat (any_goals (first | exact True.intro | exact rfl | with_reducible_and_instances rfl | exact (by kernel_rfl) | refine And.intro ?_ ?_))
      all_goals conv => whnf
    · have hk : keepC (s.list ++ [x]) = s.list ++ [x] := by unfold keepC; rw [if_neg (by simp at *; omega)]
      refine ⟨(), trivial, ?_⟩
      rw [hk, List.map_append]
      all_goals refine ⟨[(3, 4)], ?_⟩
      repeat (any_goals (first | exact True.intro | exact rfl | with_reducible_and_instances rfl | exact (by kernel_rfl) | refine And.intro ?_ ?_))
      all_goals conv => whnf
  · generalize hkl : keepC (s.list ++ [x]) = l at *
    have hl' : (l.map sR).length ≤ 8 := by simpa using hll
    conv => whnf
    repeat (any_goals (first
      | exact True.intro
      | (refine And.intro (fun _ => ?_) tf; conv => whnf)
      | (refine And.intro ft (fun _ => ?_); conv => whnf)
      | (refine And.intro (by kernel_rfl) ?_; conv => whnf)
      | (refine And.intro (by decide) ?_; conv => whnf)
      | (refine And.intro (fun _ => ?_) (fun h => absurd h (by decide)); conv => whnf)
      | (refine And.intro (fun h => absurd h (by decide)) (fun _ => ?_); conv => whnf)
      | (refine And.intro (fun _ => ?_) (fun _ => ?_) <;> conv => whnf)
      | (refine ⟨_, _, mk0 2 16 (by kernel_rfl) (by omega) (by unfold maxLen; omega), ?_⟩; conv => whnf)))
    all_goals try (refine Or.inl ?_; conv => whnf)
    repeat (any_goals (first
      | exact True.intro
      | (refine And.intro (fun _ => ?_) tf; conv => whnf)
      | (refine And.intro ft (fun _ => ?_); conv => whnf)
      | (refine And.intro (by kernel_rfl) ?_; conv => whnf)
      | (refine And.intro (by decide) ?_; conv => whnf)
      | (refine And.intro (fun _ => ?_) (fun h => absurd h (by decide)); conv => whnf)
      | (refine And.intro (fun h => absurd h (by decide)) (fun _ => ?_); conv => whnf)
      | (refine And.intro (fun _ => ?_) (fun _ => ?_) <;> conv => whnf)))
    refine ⟨Nat, fun k => k ≤ l.length, fun k => ([(48, iA k), (47, iA (l.map sR).length), (46, .own 3), (5, .own 4), (0, .ptr 0 0), (3, .ptr 2 0)], [.cells [iA s.rho, iA s.least, bA s.held, iA s.streak, .own 3], .dead, .cells [iA x.asked, iA x.got, iA x.sent, iA x.came], .sl 4 (l.map sR), .sl 2 (((l.take k).map fun o => gapOf o x.sent s.rho).map gR)]), fun k => l.length - k, ⟨0, Nat.zero_le _, ?_⟩, ?_⟩
    · all_goals refine ⟨[], ?_⟩
      repeat (any_goals (first | exact True.intro | exact rfl | with_reducible_and_instances rfl | exact (by kernel_rfl) | refine And.intro ?_ ?_))
      all_goals conv => whnf
    rintro k hk
    by_cases hlt : k < l.length
    · conv => whnf
      have hx : l[k]? = some l[k] := List.getElem?_eq_getElem hlt
      repeat (any_goals (first
        | exact True.intro
        | (refine And.intro (fun _ => ?_) tf; conv => whnf)
        | (refine And.intro ft (fun _ => ?_); conv => whnf)
        | (refine And.intro (by kernel_rfl) ?_; conv => whnf)
        | (refine And.intro (by decide) ?_; conv => whnf)
        | (refine And.intro (fun _ => ?_) (fun h => absurd h (by decide)); conv => whnf)
        | (refine And.intro (fun h => absurd h (by decide)) (fun _ => ?_); conv => whnf)
        | (refine And.intro (fun _ => ?_) (fun h => absurd h (by simpa using hlt)); conv => whnf)
        | (refine And.intro (fun _ => ?_) (fun _ => ?_) <;> conv => whnf)))
      all_goals try (refine Or.inl ?_; conv => whnf)
      repeat (any_goals (first
        | exact True.intro
        | (refine And.intro (fun _ => ?_) tf; conv => whnf)
        | (refine And.intro ft (fun _ => ?_); conv => whnf)
        | (refine And.intro (by kernel_rfl) ?_; conv => whnf)
        | (refine And.intro (by decide) ?_; conv => whnf)
        | (refine And.intro (fun _ => ?_) (fun h => absurd h (by decide)); conv => whnf)
        | (refine And.intro (fun h => absurd h (by decide)) (fun _ => ?_); conv => whnf)
        | (refine And.intro (fun _ => ?_) (fun _ => ?_) <;> conv => whnf)))
      all_goals try (exfalso; simp only [decide_eq_true_eq, decide_eq_false_iff_not, Bool.not_eq_true', Bool.not_eq_false', Bool.not_eq_true, Bool.not_eq_false, beq_iff_eq, bne_iff_ne, beq_eq_false_iff_ne, bne_eq_false_iff_eq, ne_eq, Decidable.not_not] at *; first | omega | contradiction | (simp_all; done) | (simp_all; omega))
      all_goals try (refine Or.inl ?_; conv => whnf)
      repeat (any_goals (first
        | exact True.intro
        | (refine And.intro (fun _ => ?_) tf; conv => whnf)
        | (refine And.intro ft (fun _ => ?_); conv => whnf)
        | (refine And.intro (by kernel_rfl) ?_; conv => whnf)
        | (refine And.intro (by decide) ?_; conv => whnf)
        | (refine And.intro (fun _ => ?_) (fun h => absurd h (by decide)); conv => whnf)
        | (refine And.intro (fun h => absurd h (by decide)) (fun _ => ?_); conv => whnf)
        | (refine ⟨_, rfl, by simpa using hlt, ?_⟩; conv => whnf)
        | (refine ⟨_, map_get hx, ?_⟩; conv => whnf)
        | (refine And.intro (fun _ => ?_) (fun _ => ?_) <;> conv => whnf)
        | (refine ⟨_, _, (at_sat _ _ _ (by omega) (by omega)).pu rfl rfl, ?_⟩; conv => whnf)))
      refine Or.inr ⟨Unit, fun _ => True, fun _ => ([(48, iA k), (47, iA (l.map sR).length), (46, .own 3), (5, .own 4), (8, .ptr 6 0), (0, .ptr 0 0), (3, .ptr 2 0)], [.cells [iA s.rho, iA s.least, bA s.held, iA s.streak, .own 3], .dead, .cells [iA x.asked, iA x.got, iA x.sent, iA x.came], .sl 4 (l.map sR), .sl 2 (((l.take k).map fun o => gapOf o x.sent s.rho).map gR), .dead, .cells [iA (gapOf l[k] x.sent s.rho).1, iA (gapOf l[k] x.sent s.rho).2]]), ?_, fun _ _ => ?_⟩
      · conv => whnf
        repeat (any_goals (first
          | exact True.intro
          | (refine And.intro (fun _ => ?_) tf; conv => whnf)
          | (refine And.intro ft (fun _ => ?_); conv => whnf)
          | (refine And.intro (by kernel_rfl) ?_; conv => whnf)
          | (refine And.intro (by decide) ?_; conv => whnf)
          | (refine And.intro (fun _ => ?_) (fun h => absurd h (by decide)); conv => whnf)
          | (refine And.intro (fun h => absurd h (by decide)) (fun _ => ?_); conv => whnf)
          | (refine And.intro (fun _ => ?_) (fun _ => ?_) <;> conv => whnf)))
        · have hg : gapOf l[k] x.sent s.rho = (1, 0) := by unfold gapOf; rw [if_neg (by (try simp only [decide_eq_true_eq, decide_eq_false_iff_not, Bool.not_eq_true', Bool.not_eq_false', Bool.not_eq_true, Bool.not_eq_false, beq_iff_eq, bne_iff_ne, beq_eq_false_iff_ne, bne_eq_false_iff_eq, ne_eq, Decidable.not_not, Int.natCast_eq_zero] at *); first | omega | assumption | (simp_all; done) | (simp_all; omega))]
          refine ⟨(), trivial, ?_⟩
          rw [hg]
          all_goals refine ⟨[], ?_⟩
          repeat (any_goals (first | exact True.intro | exact rfl | with_reducible_and_instances rfl | exact (by kernel_rfl) | refine And.intro ?_ ?_))
          all_goals conv => whnf
        · have hg : gapOf l[k] x.sent s.rho = (atR l[k] x.sent s.rho).1 := by unfold gapOf; rw [if_pos (by (try simp only [decide_eq_true_eq, decide_eq_false_iff_not, Bool.not_eq_true', Bool.not_eq_false', Bool.not_eq_true, Bool.not_eq_false, beq_iff_eq, bne_iff_ne, beq_eq_false_iff_ne, bne_eq_false_iff_eq, ne_eq, Decidable.not_not, Int.natCast_eq_zero] at *); first | omega | assumption | (simp_all; done) | (simp_all; omega))]
          refine ⟨(), trivial, ?_⟩
          rw [hg]
          all_goals refine ⟨[], ?_⟩
          repeat (any_goals (first | exact True.intro | exact rfl | with_reducible_and_instances rfl | exact (by kernel_rfl) | refine And.intro ?_ ?_))
          all_goals conv => whnf
      · conv => whnf
        repeat (any_goals (first
          | exact True.intro
          | (refine And.intro (fun _ => ?_) tf; conv => whnf)
          | (refine And.intro ft (fun _ => ?_); conv => whnf)
          | (refine And.intro (by kernel_rfl) ?_; conv => whnf)
          | (refine And.intro (by decide) ?_; conv => whnf)
          | (refine And.intro (fun _ => ?_) (fun h => absurd h (by decide)); conv => whnf)
          | (refine And.intro (fun h => absurd h (by decide)) (fun _ => ?_); conv => whnf)
          | (refine And.intro (fun _ => ?_) (fun _ => ?_) <;> conv => whnf)
          | (refine ⟨_, _, ap 2 16 (by kernel_rfl) rfl rfl (by simp; omega), ?_⟩; conv => whnf)))
        refine ⟨k + 1, hlt, show l.length - (k + 1) < l.length - k by omega, ?_⟩
        all_goals refine ⟨[(4, 8)], ?_⟩
        repeat (any_goals (first | exact True.intro | exact rfl | with_reducible_and_instances rfl | exact (by kernel_rfl) | refine And.intro ?_ ?_))
        all_goals conv => whnf
        · exact wk1 (by omega)
        · rw [map_take_succ hx, List.map_append]; rfl
    · have hkk : k = l.length := by omega
      subst hkk
      conv => whnf
      repeat (any_goals (first
        | exact True.intro
        | (refine And.intro (fun _ => ?_) tf; conv => whnf)
        | (refine And.intro ft (fun _ => ?_); conv => whnf)
        | (refine And.intro (by kernel_rfl) ?_; conv => whnf)
        | (refine And.intro (by decide) ?_; conv => whnf)
        | (refine And.intro (fun _ => ?_) (fun h => absurd h (by decide)); conv => whnf)
        | (refine And.intro (fun h => absurd h (by decide)) (fun _ => ?_); conv => whnf)
        | (refine And.intro (fun h => absurd h (by simpa using hlt)) (fun _ => ?_); conv => whnf)
        | (refine And.intro (fun _ => ?_) (fun _ => ?_) <;> conv => whnf)))
      all_goals try (refine Or.inl ?_; conv => whnf)
      repeat (any_goals (first
        | exact True.intro
        | (refine And.intro (fun _ => ?_) tf; conv => whnf)
        | (refine And.intro ft (fun _ => ?_); conv => whnf)
        | (refine And.intro (by kernel_rfl) ?_; conv => whnf)
        | (refine And.intro (by decide) ?_; conv => whnf)
        | (refine And.intro (fun _ => ?_) (fun h => absurd h (by decide)); conv => whnf)
        | (refine And.intro (fun h => absurd h (by decide)) (fun _ => ?_); conv => whnf)
        | (refine And.intro (fun _ => ?_) (fun _ => ?_) <;> conv => whnf)))
      all_goals try (exfalso; simp only [decide_eq_true_eq, decide_eq_false_iff_not, Bool.not_eq_true', Bool.not_eq_false', Bool.not_eq_true, Bool.not_eq_false, beq_iff_eq, bne_iff_ne, beq_eq_false_iff_ne, bne_eq_false_iff_eq, ne_eq, Decidable.not_not] at *; first | omega | contradiction | (simp_all; done) | (simp_all; omega))
      all_goals try (refine Or.inl ?_; conv => whnf)
      repeat (any_goals (first
        | exact True.intro
        | (refine And.intro (fun _ => ?_) tf; conv => whnf)
        | (refine And.intro ft (fun _ => ?_); conv => whnf)
        | (refine And.intro (by kernel_rfl) ?_; conv => whnf)
        | (refine And.intro (by decide) ?_; conv => whnf)
        | (refine And.intro (fun _ => ?_) (fun h => absurd h (by decide)); conv => whnf)
        | (refine And.intro (fun h => absurd h (by decide)) (fun _ => ?_); conv => whnf)
        | (refine And.intro (fun _ => ?_) (fun _ => ?_) <;> conv => whnf)
        | (refine ⟨_, _, lendO (agree_sat _ (by simp; omega)) rfl rfl, ?_⟩; conv => whnf)))
      · have hag : agreeB (l.map fun o => gapOf o x.sent s.rho) = true := by rename_i h; rw [List.take_length] at h; exact h
        have hr : addC s x = (⟨s.rho, s.least, if s.least ≤ (if s.streak < 9223372036854775807 then s.streak + 1 else s.streak) then false else s.held, if s.streak < 9223372036854775807 then s.streak + 1 else s.streak, l⟩, 0) := by
          unfold addC
          rw [if_neg (by simp [h0]), hkl, if_pos hag]
        rw [hr]
        by_cases c1 : s.streak < 9223372036854775807
        · have hw : IntKind.i64.wrap (s.streak + 1) = s.streak + 1 := wi (by omega) (by omega)
          rw [if_pos c1]
          by_cases c2 : s.least ≤ s.streak + 1
          · rw [if_pos c2]
            all_goals try (refine Or.inl ?_; conv => whnf)
            repeat (any_goals (first
              | exact True.intro
              | (refine Or.inl ?_; conv => whnf)
              | (refine And.intro (fun _ => ?_) tf; conv => whnf)
              | (refine And.intro ft (fun _ => ?_); conv => whnf)
              | (refine And.intro (by kernel_rfl) ?_; conv => whnf)
              | (refine And.intro (by decide) ?_; conv => whnf)
              | (refine And.intro (fun _ => ?_) (fun h => absurd h (by decide)); conv => whnf)
              | (refine And.intro (fun h => absurd h (by decide)) (fun _ => ?_); conv => whnf)
              | (refine And.intro (fun _ => ?_) (fun _ => ?_) <;> conv => whnf)))
            all_goals try (exfalso; simp only [decide_eq_true_eq, decide_eq_false_iff_not, Bool.not_eq_true', Bool.not_eq_false', Bool.not_eq_true, Bool.not_eq_false, beq_iff_eq, bne_iff_ne, beq_eq_false_iff_ne, bne_eq_false_iff_eq, ne_eq, Decidable.not_not] at *; first | omega | contradiction | (simp_all; done) | (simp_all; omega))
            all_goals refine ⟨[(2, 3)], ?_⟩
            repeat (any_goals (first | exact True.intro | exact rfl | with_reducible_and_instances rfl | exact (by kernel_rfl) | refine And.intro ?_ ?_))
            all_goals conv => whnf
            rw [hw]
          · rw [if_neg c2]
            all_goals try (refine Or.inl ?_; conv => whnf)
            repeat (any_goals (first
              | exact True.intro
              | (refine Or.inl ?_; conv => whnf)
              | (refine And.intro (fun _ => ?_) tf; conv => whnf)
              | (refine And.intro ft (fun _ => ?_); conv => whnf)
              | (refine And.intro (by kernel_rfl) ?_; conv => whnf)
              | (refine And.intro (by decide) ?_; conv => whnf)
              | (refine And.intro (fun _ => ?_) (fun h => absurd h (by decide)); conv => whnf)
              | (refine And.intro (fun h => absurd h (by decide)) (fun _ => ?_); conv => whnf)
              | (refine And.intro (fun _ => ?_) (fun _ => ?_) <;> conv => whnf)))
            all_goals try (exfalso; simp only [decide_eq_true_eq, decide_eq_false_iff_not, Bool.not_eq_true', Bool.not_eq_false', Bool.not_eq_true, Bool.not_eq_false, beq_iff_eq, bne_iff_ne, beq_eq_false_iff_ne, bne_eq_false_iff_eq, ne_eq, Decidable.not_not] at *; first | omega | contradiction | (simp_all; done) | (simp_all; omega))
            all_goals refine ⟨[(2, 3)], ?_⟩
            repeat (any_goals (first | exact True.intro | exact rfl | with_reducible_and_instances rfl | exact (by kernel_rfl) | refine And.intro ?_ ?_))
            all_goals conv => whnf
            rw [hw]
        · rw [if_neg c1]
          by_cases c2 : s.least ≤ s.streak
          · rw [if_pos c2]
            all_goals try (refine Or.inl ?_; conv => whnf)
            repeat (any_goals (first
              | exact True.intro
              | (refine Or.inl ?_; conv => whnf)
              | (refine And.intro (fun _ => ?_) tf; conv => whnf)
              | (refine And.intro ft (fun _ => ?_); conv => whnf)
              | (refine And.intro (by kernel_rfl) ?_; conv => whnf)
              | (refine And.intro (by decide) ?_; conv => whnf)
              | (refine And.intro (fun _ => ?_) (fun h => absurd h (by decide)); conv => whnf)
              | (refine And.intro (fun h => absurd h (by decide)) (fun _ => ?_); conv => whnf)
              | (refine And.intro (fun _ => ?_) (fun _ => ?_) <;> conv => whnf)))
            all_goals try (exfalso; simp only [decide_eq_true_eq, decide_eq_false_iff_not, Bool.not_eq_true', Bool.not_eq_false', Bool.not_eq_true, Bool.not_eq_false, beq_iff_eq, bne_iff_ne, beq_eq_false_iff_ne, bne_eq_false_iff_eq, ne_eq, Decidable.not_not] at *; first | omega | contradiction | (simp_all; done) | (simp_all; omega))
            all_goals refine ⟨[(2, 3)], ?_⟩
            repeat (any_goals (first | exact True.intro | exact rfl | with_reducible_and_instances rfl | exact (by kernel_rfl) | refine And.intro ?_ ?_))
            all_goals conv => whnf
          · rw [if_neg c2]
            all_goals try (refine Or.inl ?_; conv => whnf)
            repeat (any_goals (first
              | exact True.intro
              | (refine Or.inl ?_; conv => whnf)
              | (refine And.intro (fun _ => ?_) tf; conv => whnf)
              | (refine And.intro ft (fun _ => ?_); conv => whnf)
              | (refine And.intro (by kernel_rfl) ?_; conv => whnf)
              | (refine And.intro (by decide) ?_; conv => whnf)
              | (refine And.intro (fun _ => ?_) (fun h => absurd h (by decide)); conv => whnf)
              | (refine And.intro (fun h => absurd h (by decide)) (fun _ => ?_); conv => whnf)
              | (refine And.intro (fun _ => ?_) (fun _ => ?_) <;> conv => whnf)))
            all_goals try (exfalso; simp only [decide_eq_true_eq, decide_eq_false_iff_not, Bool.not_eq_true', Bool.not_eq_false', Bool.not_eq_true, Bool.not_eq_false, beq_iff_eq, bne_iff_ne, beq_eq_false_iff_ne, bne_eq_false_iff_eq, ne_eq, Decidable.not_not] at *; first | omega | contradiction | (simp_all; done) | (simp_all; omega))
            all_goals refine ⟨[(2, 3)], ?_⟩
            repeat (any_goals (first | exact True.intro | exact rfl | with_reducible_and_instances rfl | exact (by kernel_rfl) | refine And.intro ?_ ?_))
            all_goals conv => whnf
      · have hag : ¬ agreeB (l.map fun o => gapOf o x.sent s.rho) = true := by rename_i h; rw [List.take_length] at h; simp [h]
        have hr : addC s x = (⟨s.rho, s.least, true, 0, if okG (gapOf x x.sent s.rho) = true then [x] else []⟩, 21) := by
          unfold addC
          rw [if_neg (by simp [h0]), hkl, if_neg hag]
        rw [hr]
        have hlast : (((l.take l.length).map fun o => gapOf o x.sent s.rho).map gR)[l.length - 1]? = some (gR (gapOf x x.sent s.rho)) := by
          rw [List.take_length]
          refine map_get (map_get ?_)
          subst hkl
          exact keep_last _ _
        have hpos : 0 < l.length := by subst hkl; exact keep_pos _ _
        have hw : IntKind.i64.wrap (((((l.take l.length).map fun o => gapOf o x.sent s.rho).map gR).length : Int) - 1) = ((l.length - 1 : Nat) : Int) := by
          rw [List.length_map, List.length_map, List.take_length, wi (by omega) (by omega)]; omega
        by_cases hg : okG (gapOf x x.sent s.rho) = true
        · rw [if_pos hg]
          all_goals try (refine Or.inl ?_; conv => whnf)
          repeat (any_goals (first
            | exact True.intro
            | (refine And.intro (fun _ => ?_) tf; conv => whnf)
            | (refine And.intro ft (fun _ => ?_); conv => whnf)
            | (refine And.intro (by kernel_rfl) ?_; conv => whnf)
            | (refine And.intro (by decide) ?_; conv => whnf)
            | (refine And.intro (fun _ => ?_) (fun h => absurd h (by decide)); conv => whnf)
            | (refine And.intro (fun h => absurd h (by decide)) (fun _ => ?_); conv => whnf)
            | (refine ⟨l.length - 1, hw, by simp; omega, ?_⟩; conv => whnf)
            | (refine ⟨_, hlast, ?_⟩; conv => whnf)
            | (refine And.intro (fun _ => ?_) (fun _ => ?_) <;> conv => whnf)
            | (refine ⟨_, _, (gapRight_sat _).pu rfl rfl, ?_⟩; conv => whnf)))
          all_goals try (refine Or.inl ?_; conv => whnf)
          repeat (any_goals (first
            | exact True.intro
            | (refine And.intro (fun _ => ?_) tf; conv => whnf)
            | (refine And.intro ft (fun _ => ?_); conv => whnf)
            | (refine And.intro (by kernel_rfl) ?_; conv => whnf)
            | (refine And.intro (by decide) ?_; conv => whnf)
            | (refine And.intro (fun _ => ?_) (fun h => absurd h (by decide)); conv => whnf)
            | (refine And.intro (fun h => absurd h (by decide)) (fun _ => ?_); conv => whnf)
            | (refine And.intro (fun _ => ?_) (fun _ => ?_) <;> conv => whnf)))
          all_goals try (exfalso; simp only [decide_eq_true_eq, decide_eq_false_iff_not, Bool.not_eq_true', Bool.not_eq_false', Bool.not_eq_true, Bool.not_eq_false, beq_iff_eq, bne_iff_ne, beq_eq_false_iff_ne, bne_eq_false_iff_eq, ne_eq, Decidable.not_not] at *; first | omega | contradiction | (simp_all; done) | (simp_all; omega))
          all_goals refine ⟨[(2, 5)], ?_⟩
          repeat (any_goals (first | exact True.intro | exact rfl | with_reducible_and_instances rfl | exact (by kernel_rfl) | refine And.intro ?_ ?_))
          all_goals conv => whnf
        · rw [if_neg hg]
          all_goals try (refine Or.inl ?_; conv => whnf)
          repeat (any_goals (first
            | exact True.intro
            | (refine And.intro (fun _ => ?_) tf; conv => whnf)
            | (refine And.intro ft (fun _ => ?_); conv => whnf)
            | (refine And.intro (by kernel_rfl) ?_; conv => whnf)
            | (refine And.intro (by decide) ?_; conv => whnf)
            | (refine And.intro (fun _ => ?_) (fun h => absurd h (by decide)); conv => whnf)
            | (refine And.intro (fun h => absurd h (by decide)) (fun _ => ?_); conv => whnf)
            | (refine ⟨l.length - 1, hw, by simp; omega, ?_⟩; conv => whnf)
            | (refine ⟨_, hlast, ?_⟩; conv => whnf)
            | (refine And.intro (fun _ => ?_) (fun _ => ?_) <;> conv => whnf)
            | (refine ⟨_, _, (gapRight_sat _).pu rfl rfl, ?_⟩; conv => whnf)))
          all_goals try (refine Or.inl ?_; conv => whnf)
          repeat (any_goals (first
            | exact True.intro
            | (refine And.intro (fun _ => ?_) tf; conv => whnf)
            | (refine And.intro ft (fun _ => ?_); conv => whnf)
            | (refine And.intro (by kernel_rfl) ?_; conv => whnf)
            | (refine And.intro (by decide) ?_; conv => whnf)
            | (refine And.intro (fun _ => ?_) (fun h => absurd h (by decide)); conv => whnf)
            | (refine And.intro (fun h => absurd h (by decide)) (fun _ => ?_); conv => whnf)
            | (refine And.intro (fun _ => ?_) (fun _ => ?_) <;> conv => whnf)))
          all_goals try (exfalso; simp only [decide_eq_true_eq, decide_eq_false_iff_not, Bool.not_eq_true', Bool.not_eq_false', Bool.not_eq_true, Bool.not_eq_false, beq_iff_eq, bne_iff_ne, beq_eq_false_iff_ne, bne_eq_false_iff_eq, ne_eq, Decidable.not_not] at *; first | omega | contradiction | (simp_all; done) | (simp_all; omega))
          all_goals refine ⟨[(2, 2)], ?_⟩
          repeat (any_goals (first | exact True.intro | exact rfl | with_reducible_and_instances rfl | exact (by kernel_rfl) | refine And.intro ?_ ?_))
          all_goals conv => whnf
end Go.Proofs.Ytgidaifoiljgoaa
/- clock.Clock: Samples, Clone, Point; a sample's Trip; gap's Mid, Within, Has, by their conditions. -/
namespace Go.Proofs.Ytgidaifoiljgoaa
set_option linter.unusedSimpArgs false
set_option linter.unusedVariables false
open Go.RowKit
set_option maxRecDepth 100000
set_option maxHeartbeats 1000000 in
theorem clone0_any (A : Option Addr) (c : Nat) (w : World) :
    Calls Try.prog 61 #[.slice A 0 c] w fun e w' => ∃ v, e = .returned v ∧ Ow w' w.heap.size 33 4 v 0 [] ∧ Below w.heap.size w w' ∧ ∀ k, blkOf v = some k → k < w'.heap.size := by
  obtain ⟨i0, hi0, hz0, hz1, hz2⟩ := info_parts infoSz
  cases A with
  | none =>
    have hq := Lib.run_eql_slice_nil (P := Try.prog) (w := w) 22
    go_enter Try.func61, Try.ntmps61
    go_wp2_with fail
    go_ret
    exact ⟨_, rfl, Ow.nil _ _ _ _, Below.refl _ _, fun k hk => by cases hk⟩
  | some a =>
    have hq := Lib.run_eql_slice_nil (P := Try.prog) (w := w) 22
    have hlit := hide <| Ow.lit w #[] 0 (lo := w.heap.size) (size := 4) (e := 33) (Nat.le_refl _) (by simp [maxLen]) rfl
    have hap := hide <| fun w1 ty hown => run_append_zero (P := Try.prog) (w := w1) (ty := ty) (t := 22) (A := some a) (c := c) (lo := w.heap.size) (size := 4) (ee := 33) (v := .slice (some ⟨w.heap.size, 0, none⟩) 0 0) (m' := 0) (xs := []) Try.underlying22 hi0 hown
    go_enter Try.func61, Try.ntmps61
    go_wp2_with (at_builtin; refine wpList_exec rfl _ (exec_append _ _ _ rfl _ _ rfl rfl (hap.out _ _ hlit.out)) ?_)
    go_ret
    refine ⟨_, rfl, hlit.out, (Below.refl _ _).alloc (Nat.le_refl _) _, fun k hk => ?_⟩
    injection hk with hk
    subst hk
    show w.heap.size < (w.heap.push _).size
    rw [Array.size_push]; exact Nat.lt_succ_self _
theorem clone_sat (l : List Smp) (hn : l.length ≤ 1000) : Sat Try.prog 61 [.d (.sl 4 (l.map sR))] [] (.own 0) [.sl 4 (l.map sR)] := by
  intro F ρ w vals En hv
  obtain ⟨v, rfl, hv'⟩ := hv.one_out
  cases hv' with | d hv =>
    obtain ⟨A, c, rfl, h1, h2, hr⟩ := hv.sl_rd En.fb (flat_map sR_flat l)
    rw [List.length_map] at hr ⊢
    have main : Calls Try.prog 61 #[.slice A l.length c] w fun e w' => ∃ v, e = .returned v ∧ Ow w' w.heap.size 33 4 v l.length (scells l) ∧ Below w.heap.size w w' ∧ ∀ k, blkOf v = some k → k < w'.heap.size := by
      rcases Nat.eq_zero_or_pos l.length with h0 | h0
      · have : l = [] := List.eq_nil_of_length_eq_zero h0
        subst this
        exact clone0_any A c w
      · refine (cloneS_any A _ c l w hr hn).mono ?_
        rintro e w' ⟨v, rfl, how, hb⟩
        refine ⟨v, rfl, how, hb, fun k hk => ?_⟩
        obtain ⟨g, off, cap, rfl, _, hg, _⟩ := how.open_ h0
        injection hk with hk
        subst hk
        exact hg
    refine main.mono ?_
    rintro e w' ⟨v, rfl, how, hb, hlt⟩
    have hG : w.grownBy w' none := ⟨hb.os, hb.tape, hb.output, hb.size, fun b h _ => hb.block b h⟩
    have hnone : hp ([] : List AObj) 0 = none := rfl
    obtain ⟨A', c', he, g1, g2, hrd⟩ := how.form
    subst he
    have how0 : Ow w' 0 0 4 (.slice A' l.length c') l.length (scells l) := ⟨how.1, by
      rcases how.2 with h | ⟨a, h, _, h'⟩ | ⟨g, off, cap, h, _, h'⟩
      · exact .inl h
      · exact .inr (.inl ⟨a, h, Nat.zero_le _, h'⟩)
      · exact .inr (.inr ⟨g, off, cap, h, Nat.zero_le _, h'⟩)⟩
    obtain ⟨S, K, E⟩ := En.new (n := 0) (o' := .sl 4 (l.map sR)) (h := .slice A' l.length c') hnone hG (fun b hb' => ⟨how.lt b (by rw [← blk_own rfl]; exact hb'), hlt b hb'⟩)
      ⟨_, by rw [List.length_map]; exact how0, (flat_map sR_flat l).rds, fun r hr => by obtain ⟨x, _, rfl⟩ := List.mem_map.1 hr; rfl⟩
    have e : updF (hp []) 0 (some (.sl 4 (l.map sR))) = hp [.sl 4 (l.map sR)] := by
      funext i
      match i with
      | 0 => rfl
      | i + 1 => rfl
    rw [e] at S E
    exact ⟨_, rfl, F, _, S, K, E, .own (updF_same _ _ _)⟩
theorem samples_sat (s : CSt) (hn : s.list.length ≤ 8) : Sat Try.prog 28 [.ptr 0 0] (cH s) (.own 2) [cR s, .sl 4 (s.list.map sR), .sl 4 (s.list.map sR)] := by
  refine sat_of_vc (T := tiOf Try.prog) (E := E0) Try.func28 rfl rfl hE0 hm0 rfl ?_
  conv => whnf
  repeat (any_goals (first
    | exact True.intro
    | (refine Or.inl ?_; conv => whnf)
    | (refine And.intro (fun _ => ?_) tf; conv => whnf)
    | (refine And.intro ft (fun _ => ?_); conv => whnf)
    | (refine And.intro (by kernel_rfl) ?_; conv => whnf)
    | (refine And.intro (by decide) ?_; conv => whnf)
    | (refine And.intro (fun _ => ?_) (fun h => absurd h (by decide)); conv => whnf)
    | (refine And.intro (fun h => absurd h (by decide)) (fun _ => ?_); conv => whnf)
    | (refine And.intro (fun _ => ?_) (fun _ => ?_) <;> conv => whnf)
    | (refine ⟨_, _, lendON (clone_sat s.list (by omega)) rfl (flat_map sR_flat _), ?_⟩; conv => whnf)))
  all_goals refine ⟨[], ?_⟩
  repeat (any_goals (first | exact True.intro | exact rfl | with_reducible_and_instances rfl | exact (by kernel_rfl) | refine And.intro ?_ ?_))
  all_goals conv => whnf
theorem clone1_sat (s : CSt) (hn : s.list.length ≤ 8) : Sat Try.prog 40 [.ptr 0 0] (cH s) (.ptr 2 0) [cR s, .sl 4 (s.list.map sR), .cells [iA s.rho, iA s.least, bA s.held, iA s.streak, .own 3], .sl 4 (s.list.map sR)] := by
  refine sat_of_vc (T := tiOf Try.prog) (E := E0) Try.func40 rfl rfl hE0 hm0 rfl ?_
  conv => whnf
  repeat (any_goals (first
    | exact True.intro
    | (refine Or.inl ?_; conv => whnf)
    | (refine And.intro (fun _ => ?_) tf; conv => whnf)
    | (refine And.intro ft (fun _ => ?_); conv => whnf)
    | (refine And.intro (by kernel_rfl) ?_; conv => whnf)
    | (refine And.intro (by decide) ?_; conv => whnf)
    | (refine And.intro (fun _ => ?_) (fun h => absurd h (by decide)); conv => whnf)
    | (refine And.intro (fun h => absurd h (by decide)) (fun _ => ?_); conv => whnf)
    | (refine And.intro (fun _ => ?_) (fun _ => ?_) <;> conv => whnf)
    | (refine ⟨_, _, lendON (clone_sat s.list (by omega)) rfl (flat_map sR_flat _), ?_⟩; conv => whnf)))
  all_goals refine ⟨[], ?_⟩
  repeat (any_goals (first | exact True.intro | exact rfl | with_reducible_and_instances rfl | exact (by kernel_rfl) | refine And.intro ?_ ?_))
  all_goals conv => whnf
def midZ (g : Int × Int) : Int := if okG g = true then IntKind.i64.wrap (IntKind.i64.wrap (BitVec.ofInt IntKind.i64.bits g.1 &&& BitVec.ofInt IntKind.i64.bits g.2).toNat + (IntKind.i64.wrap (BitVec.ofInt IntKind.i64.bits g.1 ^^^ BitVec.ofInt IntKind.i64.bits g.2).toNat).fdiv (2 ^ (min (1 : Int).toNat IntKind.i64.bits))) else 0
theorem mid_sat (g : Int × Int) : Sat Try.prog 54 [gA g] [] (iA (midZ g)) [] := by
  refine sat_of_vc (T := tiOf Try.prog) (E := E0) Try.func54 rfl rfl hE0 hm0 rfl ?_
  conv => whnf
  repeat (any_goals (first
    | exact True.intro
    | (refine Or.inl ?_; conv => whnf)
    | (refine And.intro (fun _ => ?_) tf; conv => whnf)
    | (refine And.intro ft (fun _ => ?_); conv => whnf)
    | (refine And.intro (by kernel_rfl) ?_; conv => whnf)
    | (refine And.intro (by decide) ?_; conv => whnf)
    | (refine And.intro (fun _ => ?_) (fun h => absurd h (by decide)); conv => whnf)
    | (refine And.intro (fun h => absurd h (by decide)) (fun _ => ?_); conv => whnf)
    | (refine And.intro (fun _ => ?_) (fun _ => ?_) <;> conv => whnf)
    | (refine ⟨_, _, (gapRight_sat _).pu rfl rfl, ?_⟩; conv => whnf)))
  · have h : ¬ okG g = true := (by (try simp only [decide_eq_true_eq, decide_eq_false_iff_not, Bool.not_eq_true', Bool.not_eq_false', Bool.not_eq_true, Bool.not_eq_false, beq_iff_eq, bne_iff_ne, beq_eq_false_iff_ne, bne_eq_false_iff_eq, ne_eq, Decidable.not_not, Int.natCast_eq_zero] at *); first | omega | assumption | (simp_all; done) | (simp_all; omega))
    unfold midZ
    rw [if_neg h]
    all_goals refine ⟨[], ?_⟩
    repeat (any_goals (first | exact True.intro | exact rfl | with_reducible_and_instances rfl | exact (by kernel_rfl) | refine And.intro ?_ ?_))
    all_goals conv => whnf
  · have h : okG g = true := (by (try simp only [decide_eq_true_eq, decide_eq_false_iff_not, Bool.not_eq_true', Bool.not_eq_false', Bool.not_eq_true, Bool.not_eq_false, beq_iff_eq, bne_iff_ne, beq_eq_false_iff_ne, bne_eq_false_iff_eq, ne_eq, Decidable.not_not, Int.natCast_eq_zero] at *); first | omega | assumption | (simp_all; done) | (simp_all; omega))
    unfold midZ
    rw [if_pos h]
    all_goals refine ⟨[], ?_⟩
    repeat (any_goals (first | exact True.intro | exact rfl | with_reducible_and_instances rfl | exact (by kernel_rfl) | refine And.intro ?_ ?_))
    all_goals conv => whnf
def pointC (s : CSt) (stamp : Int) : Int × Nat := if (atC s stamp).2 = 0 then (midZ (atC s stamp).1, 0) else (0, (atC s stamp).2)
theorem point_sat (s : CSt) (stamp : Int) (hn : s.list.length ≤ 8) : Sat Try.prog 21 [.ptr 0 0, iA stamp] (cH s) (.tup [iA (pointC s stamp).1, iA (pointC s stamp).2]) (cH s) := by
  refine sat_of_vc (T := tiOf Try.prog) (E := E0) Try.func21 rfl rfl hE0 hm0 rfl ?_
  conv => whnf
  repeat (any_goals (first
    | exact True.intro
    | (refine Or.inl ?_; conv => whnf)
    | (refine And.intro (fun _ => ?_) tf; conv => whnf)
    | (refine And.intro ft (fun _ => ?_); conv => whnf)
    | (refine And.intro (by kernel_rfl) ?_; conv => whnf)
    | (refine And.intro (by decide) ?_; conv => whnf)
    | (refine And.intro (fun _ => ?_) (fun h => absurd h (by decide)); conv => whnf)
    | (refine And.intro (fun h => absurd h (by decide)) (fun _ => ?_); conv => whnf)
    | (refine And.intro (fun _ => ?_) (fun _ => ?_) <;> conv => whnf)
    | (refine ⟨_, _, (clkAt_sat s stamp hn).at2 0 1 rfl rfl rfl rfl rfl, ?_⟩; conv => whnf)
    | (refine ⟨_, _, (mid_sat _).pu rfl rfl, ?_⟩; conv => whnf)))
  · have h : ¬ (atC s stamp).2 = 0 := (by (try simp only [decide_eq_true_eq, decide_eq_false_iff_not, Bool.not_eq_true', Bool.not_eq_false', Bool.not_eq_true, Bool.not_eq_false, beq_iff_eq, bne_iff_ne, beq_eq_false_iff_ne, bne_eq_false_iff_eq, ne_eq, Decidable.not_not, Int.natCast_eq_zero] at *); first | omega | assumption | (simp_all; done) | (simp_all; omega))
    have hr : pointC s stamp = (0, (atC s stamp).2) := by unfold pointC; rw [if_neg h]
    rw [hr]
    all_goals refine ⟨[], ?_⟩
    repeat (any_goals (first | exact True.intro | exact rfl | with_reducible_and_instances rfl | exact (by kernel_rfl) | refine And.intro ?_ ?_))
    all_goals conv => whnf
  · have h : (atC s stamp).2 = 0 := (by (try simp only [decide_eq_true_eq, decide_eq_false_iff_not, Bool.not_eq_true', Bool.not_eq_false', Bool.not_eq_true, Bool.not_eq_false, beq_iff_eq, bne_iff_ne, beq_eq_false_iff_ne, bne_eq_false_iff_eq, ne_eq, Decidable.not_not, Int.natCast_eq_zero] at *); first | omega | assumption | (simp_all; done) | (simp_all; omega))
    have hr : pointC s stamp = (midZ (atC s stamp).1, 0) := by unfold pointC; rw [if_pos h]
    rw [hr]
    all_goals refine ⟨[], ?_⟩
    repeat (any_goals (first | exact True.intro | exact rfl | with_reducible_and_instances rfl | exact (by kernel_rfl) | refine And.intro ?_ ?_))
    all_goals conv => whnf
def tripZ (s : Smp) : Int := if okS s = true then (s.came - s.asked) - (s.sent - s.got) else 0
theorem trip_sat (x : Smp) : Sat Try.prog 32 [sA x] [] (iA (tripZ x)) [] := by
  refine sat_of_vc (T := tiOf Try.prog) (E := E0) Try.func32 rfl rfl hE0 hm0 rfl ?_
  conv => whnf
  repeat (any_goals (first
    | exact True.intro
    | (refine Or.inl ?_; conv => whnf)
    | (refine And.intro (fun _ => ?_) tf; conv => whnf)
    | (refine And.intro ft (fun _ => ?_); conv => whnf)
    | (refine And.intro (by kernel_rfl) ?_; conv => whnf)
    | (refine And.intro (by decide) ?_; conv => whnf)
    | (refine And.intro (fun _ => ?_) (fun h => absurd h (by decide)); conv => whnf)
    | (refine And.intro (fun h => absurd h (by decide)) (fun _ => ?_); conv => whnf)
    | (refine And.intro (fun _ => ?_) (fun _ => ?_) <;> conv => whnf)
    | (refine ⟨_, _, (right_sat _).pu rfl rfl, ?_⟩; conv => whnf)))
  · have h : ¬ okS x = true := (by (try simp only [decide_eq_true_eq, decide_eq_false_iff_not, Bool.not_eq_true', Bool.not_eq_false', Bool.not_eq_true, Bool.not_eq_false, beq_iff_eq, bne_iff_ne, beq_eq_false_iff_ne, bne_eq_false_iff_eq, ne_eq, Decidable.not_not, Int.natCast_eq_zero] at *); first | omega | assumption | (simp_all; done) | (simp_all; omega))
    unfold tripZ
    rw [if_neg h]
    all_goals refine ⟨[], ?_⟩
    repeat (any_goals (first | exact True.intro | exact rfl | with_reducible_and_instances rfl | exact (by kernel_rfl) | refine And.intro ?_ ?_))
    all_goals conv => whnf
  · have h : okS x = true := (by (try simp only [decide_eq_true_eq, decide_eq_false_iff_not, Bool.not_eq_true', Bool.not_eq_false', Bool.not_eq_true, Bool.not_eq_false, beq_iff_eq, bne_iff_ne, beq_eq_false_iff_ne, bne_eq_false_iff_eq, ne_eq, Decidable.not_not, Int.natCast_eq_zero] at *); first | omega | assumption | (simp_all; done) | (simp_all; omega))
    unfold tripZ
    rw [if_pos h]
    all_goals refine ⟨[], ?_⟩
    repeat (any_goals (first | exact True.intro | exact rfl | with_reducible_and_instances rfl | exact (by kernel_rfl) | refine And.intro ?_ ?_))
    all_goals conv => whnf
    simp [okS, isT] at h
    rw [wi (n := x.came - x.asked) (by omega) (by omega), wi (n := x.sent - x.got) (by omega) (by omega), wi (by omega) (by omega)]
end Go.Proofs.Ytgidaifoiljgoaa
/- The document's gaps: Right, Meet, Mid. -/
namespace Go.Proofs.Ytgidaifoiljgoaa
set_option linter.unusedSimpArgs false
set_option linter.unusedVariables false
open Go.RowKit
set_option maxRecDepth 100000
theorem refRight_sat (g : Int × Int) : Sat Try.prog 55 [gA g] [] (bA (okG g)) [] := by
  refine sat_of_vc (T := tiOf Try.prog) (E := E0) Try.func55 rfl rfl hE0 hm0 rfl ?_
  conv => whnf
  repeat (any_goals (first
    | exact True.intro
    | (refine Or.inl ?_; conv => whnf)
    | (refine And.intro (fun _ => ?_) tf; conv => whnf)
    | (refine And.intro ft (fun _ => ?_); conv => whnf)
    | (refine And.intro (by kernel_rfl) ?_; conv => whnf)
    | (refine And.intro (by decide) ?_; conv => whnf)
    | (refine And.intro (fun _ => ?_) (fun h => absurd h (by decide)); conv => whnf)
    | (refine And.intro (fun h => absurd h (by decide)) (fun _ => ?_); conv => whnf)
    | (refine And.intro (fun _ => ?_) (fun _ => ?_) <;> conv => whnf)))
  all_goals refine ⟨[], ?_⟩
  repeat (any_goals (first | exact True.intro | exact rfl | with_reducible_and_instances rfl | exact (by kernel_rfl) | refine And.intro ?_ ?_))
  all_goals conv => whnf
theorem all_take_succ {α : Type} {p : α → Bool} {l : List α} {k : Nat} {x : α} (hx : l[k]? = some x) : (l.take (k + 1)).all p = ((l.take k).all p && p x) := by
  rw [List.take_add_one, hx, List.all_append]; simp
theorem foldl_take_succ {α β : Type} {f : β → α → β} {s : β} {l : List α} {k : Nat} {x : α} (hx : l[k]? = some x) : (l.take (k + 1)).foldl f s = f ((l.take k).foldl f s) x := by
  rw [List.take_add_one, hx, List.foldl_append]; rfl
theorem count_take_succ {α : Type} {p : α → Bool} {l : List α} {k : Nat} {x : α} (hx : l[k]? = some x) : (l.take (k + 1)).countP p = (l.take k).countP p + if p x = true then 1 else 0 := by
  rw [List.take_add_one, hx, List.countP_append]; simp [List.countP_cons]
theorem refRights_sat (gs : List (Int × Int)) (hn : gs.length ≤ 1000000000) : Sat Try.prog 75 [.d (.sl 2 (gs.map gR))] [] (bA (gs.all okG)) [] := by
  have hm : (gs.map gR).length = gs.length := List.length_map _
  refine sat_of_vc (T := tiOf Try.prog) (E := E0) Try.func75 rfl rfl hE0 hm0 rfl ?_
  conv => whnf
  repeat (any_goals (first
    | exact True.intro
    | (refine And.intro (fun _ => ?_) tf; conv => whnf)
    | (refine And.intro ft (fun _ => ?_); conv => whnf)
    | (refine And.intro (by kernel_rfl) ?_; conv => whnf)
    | (refine And.intro (by decide) ?_; conv => whnf)
    | (refine And.intro (fun _ => ?_) (fun h => absurd h (by decide)); conv => whnf)
    | (refine And.intro (fun h => absurd h (by decide)) (fun _ => ?_); conv => whnf)
    | (refine And.intro (fun _ => ?_) (fun _ => ?_) <;> conv => whnf)))
  all_goals try (refine Or.inl ?_; conv => whnf)
  repeat (any_goals (first
    | exact True.intro
    | (refine And.intro (fun _ => ?_) tf; conv => whnf)
    | (refine And.intro ft (fun _ => ?_); conv => whnf)
    | (refine And.intro (by kernel_rfl) ?_; conv => whnf)
    | (refine And.intro (by decide) ?_; conv => whnf)
    | (refine And.intro (fun _ => ?_) (fun h => absurd h (by decide)); conv => whnf)
    | (refine And.intro (fun h => absurd h (by decide)) (fun _ => ?_); conv => whnf)
    | (refine And.intro (fun _ => ?_) (fun _ => ?_) <;> conv => whnf)))
  refine ⟨Nat, fun k => k ≤ gs.length ∧ (gs.take k).all okG = true, fun k => ([(3, iA k), (0, .d (.sl 2 (gs.map gR)))], []), fun k => gs.length - k, ⟨0, ⟨Nat.zero_le _, rfl⟩, ?_⟩, ?_⟩
  · all_goals refine ⟨[], ?_⟩
    repeat (any_goals (first | exact True.intro | exact rfl | with_reducible_and_instances rfl | exact (by kernel_rfl) | refine And.intro ?_ ?_))
    all_goals conv => whnf
  rintro k ⟨hk, ha⟩
  conv => whnf
  by_cases hlt : k < gs.length
  · have hx : gs[k]? = some gs[k] := List.getElem?_eq_getElem hlt
    generalize gs[k] = g at hx
    repeat (any_goals (first
      | exact True.intro
      | (refine Or.inl ?_; conv => whnf)
      | (refine And.intro (fun _ => ?_) tf; conv => whnf)
      | (refine And.intro ft (fun _ => ?_); conv => whnf)
      | (refine And.intro (by kernel_rfl) ?_; conv => whnf)
      | (refine And.intro (by decide) ?_; conv => whnf)
      | (refine And.intro (fun _ => ?_) (fun h => absurd h (by decide)); conv => whnf)
      | (refine And.intro (fun h => absurd h (by decide)) (fun _ => ?_); conv => whnf)
      | (refine ⟨k, _, rfl, map_get hx, ?_⟩; conv => whnf)
      | (refine And.intro (fun _ => ?_) (fun _ => ?_) <;> conv => whnf)
      | (refine ⟨_, _, (refRight_sat g).pu rfl rfl, ?_⟩; conv => whnf)))
    all_goals try (exfalso; simp only [decide_eq_true_eq, decide_eq_false_iff_not, Bool.not_eq_true', Bool.not_eq_false', Bool.not_eq_true, Bool.not_eq_false, beq_iff_eq, bne_iff_ne, beq_eq_false_iff_ne, bne_eq_false_iff_eq, ne_eq, Decidable.not_not] at *; first | omega | contradiction | (simp_all; done) | (simp_all; omega))
    · have hg : okG g = false := (by (try simp only [decide_eq_true_eq, decide_eq_false_iff_not, Bool.not_eq_true', Bool.not_eq_false', Bool.not_eq_true, Bool.not_eq_false, beq_iff_eq, bne_iff_ne, beq_eq_false_iff_ne, bne_eq_false_iff_eq, ne_eq, Decidable.not_not, Int.natCast_eq_zero] at *); first | omega | assumption | (simp_all; done) | (simp_all; omega))
      have hr : gs.all okG = false := List.all_eq_false.2 ⟨g, List.mem_of_getElem? hx, by rw [hg]; simp⟩
      rw [hr]
      all_goals refine ⟨[], ?_⟩
      repeat (any_goals (first | exact True.intro | exact rfl | with_reducible_and_instances rfl | exact (by kernel_rfl) | refine And.intro ?_ ?_))
      all_goals conv => whnf
    · have hg : okG g = true := (by (try simp only [decide_eq_true_eq, decide_eq_false_iff_not, Bool.not_eq_true', Bool.not_eq_false', Bool.not_eq_true, Bool.not_eq_false, beq_iff_eq, bne_iff_ne, beq_eq_false_iff_ne, bne_eq_false_iff_eq, ne_eq, Decidable.not_not, Int.natCast_eq_zero] at *); first | omega | assumption | (simp_all; done) | (simp_all; omega))
      refine ⟨k + 1, ⟨hlt, by rw [all_take_succ hx, ha, hg]; rfl⟩, show gs.length - (k + 1) < gs.length - k by omega, ?_⟩
      all_goals refine ⟨[], ?_⟩
      repeat (any_goals (first | exact True.intro | exact rfl | with_reducible_and_instances rfl | exact (by kernel_rfl) | refine And.intro ?_ ?_))
      all_goals conv => whnf
      exact wk1 (by omega)
  · have hke : k = gs.length := by omega
    subst hke
    rw [List.take_length] at ha
    rw [ha]
    repeat (any_goals (first
      | exact True.intro
      | (refine Or.inl ?_; conv => whnf)
      | (refine And.intro (fun _ => ?_) tf; conv => whnf)
      | (refine And.intro ft (fun _ => ?_); conv => whnf)
      | (refine And.intro (by kernel_rfl) ?_; conv => whnf)
      | (refine And.intro (by decide) ?_; conv => whnf)
      | (refine And.intro (fun _ => ?_) (fun h => absurd h (by decide)); conv => whnf)
      | (refine And.intro (fun h => absurd h (by decide)) (fun _ => ?_); conv => whnf)
      | (refine And.intro (fun _ => ?_) (fun _ => ?_) <;> conv => whnf)))
    all_goals try (exfalso; simp only [decide_eq_true_eq, decide_eq_false_iff_not, Bool.not_eq_true', Bool.not_eq_false', Bool.not_eq_true, Bool.not_eq_false, beq_iff_eq, bne_iff_ne, beq_eq_false_iff_ne, bne_eq_false_iff_eq, ne_eq, Decidable.not_not] at *; first | omega | contradiction | (simp_all; done) | (simp_all; omega))
    all_goals refine ⟨[], ?_⟩
    repeat (any_goals (first | exact True.intro | exact rfl | with_reducible_and_instances rfl | exact (by kernel_rfl) | refine And.intro ?_ ?_))
    all_goals conv => whnf
theorem meetL_step (s : Int × Int) {gs : List (Int × Int)} {k : Nat} {g : Int × Int} (hx : gs[k]? = some g) : meetL s (gs.take (k + 1)) = (max (meetL s (gs.take k)).1 g.1, min (meetL s (gs.take k)).2 g.2) := foldl_take_succ hx
theorem refMeet_sat (gs : List (Int × Int)) (hn : gs.length ≤ 1000000000) : Sat Try.prog 53 [.d (.sl 2 (gs.map gR))] [] (.tup [gA (meetR gs).1, iA (meetR gs).2]) [] := by
  have hm : (gs.map gR).length = gs.length := List.length_map _
  have ri := refRights_sat gs hn
  by_cases hall : gs.all okG = true
  case neg =>
    have hall : gs.all okG = false := by simpa using hall
    have hr : meetR gs = ((0, 0), 10) := by unfold meetR foldR; rw [if_pos hall]
    rw [hr]
    rw [hall] at ri
    refine sat_of_vc (T := tiOf Try.prog) (E := E0) Try.func53 rfl rfl hE0 hm0 rfl ?_
    conv => whnf
    repeat (any_goals (first
      | exact True.intro
      | (refine Or.inl ?_; conv => whnf)
      | (refine And.intro (fun _ => ?_) tf; conv => whnf)
      | (refine And.intro ft (fun _ => ?_); conv => whnf)
      | (refine And.intro (by kernel_rfl) ?_; conv => whnf)
      | (refine And.intro (by decide) ?_; conv => whnf)
      | (refine And.intro (fun _ => ?_) (fun h => absurd h (by decide)); conv => whnf)
      | (refine And.intro (fun h => absurd h (by decide)) (fun _ => ?_); conv => whnf)
      | (refine And.intro (fun _ => ?_) (fun _ => ?_) <;> conv => whnf)
      | (refine ⟨_, _, ri.pu rfl rfl, ?_⟩; conv => whnf)))
    all_goals try (exfalso; simp only [decide_eq_true_eq, decide_eq_false_iff_not, Bool.not_eq_true', Bool.not_eq_false', Bool.not_eq_true, Bool.not_eq_false, beq_iff_eq, bne_iff_ne, beq_eq_false_iff_ne, bne_eq_false_iff_eq, ne_eq, Decidable.not_not] at *; first | omega | contradiction | (simp_all; done) | (simp_all; omega))
    all_goals refine ⟨[], ?_⟩
    repeat (any_goals (first | exact True.intro | exact rfl | with_reducible_and_instances rfl | exact (by kernel_rfl) | refine And.intro ?_ ?_))
    all_goals conv => whnf
  have hr : meetR gs = if okG (meetL allG gs) = true then (meetL allG gs, 0) else ((0, 0), 13) := by unfold meetR foldR; rw [if_neg (by simp [hall])]
  rw [hr]
  rw [hall] at ri
  refine sat_of_vc (T := tiOf Try.prog) (E := E0) Try.func53 rfl rfl hE0 hm0 rfl ?_
  conv => whnf
  repeat (any_goals (first
    | exact True.intro
    | (refine Or.inl ?_; conv => whnf)
    | (refine And.intro (fun _ => ?_) tf; conv => whnf)
    | (refine And.intro ft (fun _ => ?_); conv => whnf)
    | (refine And.intro (by kernel_rfl) ?_; conv => whnf)
    | (refine And.intro (by decide) ?_; conv => whnf)
    | (refine And.intro (fun _ => ?_) (fun h => absurd h (by decide)); conv => whnf)
    | (refine And.intro (fun h => absurd h (by decide)) (fun _ => ?_); conv => whnf)
    | (refine And.intro (fun _ => ?_) (fun _ => ?_) <;> conv => whnf)
    | (refine ⟨_, _, ri.pu rfl rfl, ?_⟩; conv => whnf)))
  all_goals try (exfalso; simp only [decide_eq_true_eq, decide_eq_false_iff_not, Bool.not_eq_true', Bool.not_eq_false', Bool.not_eq_true, Bool.not_eq_false, beq_iff_eq, bne_iff_ne, beq_eq_false_iff_ne, bne_eq_false_iff_eq, ne_eq, Decidable.not_not] at *; first | omega | contradiction | (simp_all; done) | (simp_all; omega))
  refine ⟨Nat, fun k => k ≤ gs.length, fun k => ([(5, iA k), (4, .ptr 1 0), (2, .ptr 0 0), (0, .d (.sl 2 (gs.map gR)))], [.cells [iA 0, iA 0], .cells [iA (meetL allG (gs.take k)).1, iA (meetL allG (gs.take k)).2]]), fun k => gs.length - k, ⟨0, Nat.zero_le _, ?_⟩, ?_⟩
  · all_goals refine ⟨[], ?_⟩
    repeat (any_goals (first | exact True.intro | exact rfl | with_reducible_and_instances rfl | exact (by kernel_rfl) | refine And.intro ?_ ?_))
    all_goals conv => whnf
  intro k hk
  conv => whnf
  by_cases hlt : k < gs.length
  · have hx : gs[k]? = some gs[k] := List.getElem?_eq_getElem hlt
    generalize gs[k] = g at hx
    repeat (any_goals (first
      | exact True.intro
      | (refine Or.inl ?_; conv => whnf)
      | (refine And.intro (fun _ => ?_) tf; conv => whnf)
      | (refine And.intro ft (fun _ => ?_); conv => whnf)
      | (refine And.intro (by kernel_rfl) ?_; conv => whnf)
      | (refine And.intro (by decide) ?_; conv => whnf)
      | (refine And.intro (fun _ => ?_) (fun h => absurd h (by decide)); conv => whnf)
      | (refine And.intro (fun h => absurd h (by decide)) (fun _ => ?_); conv => whnf)
      | (refine ⟨k, _, rfl, map_get hx, ?_⟩; conv => whnf)
      | (refine And.intro (fun _ => ?_) (fun _ => ?_) <;> conv => whnf)))
    all_goals try (exfalso; simp only [decide_eq_true_eq, decide_eq_false_iff_not, Bool.not_eq_true', Bool.not_eq_false', Bool.not_eq_true, Bool.not_eq_false, beq_iff_eq, bne_iff_ne, beq_eq_false_iff_ne, bne_eq_false_iff_eq, ne_eq, Decidable.not_not] at *; first | omega | contradiction | (simp_all; done) | (simp_all; omega))
    refine ⟨k + 1, hlt, show gs.length - (k + 1) < gs.length - k by omega, ?_⟩
    all_goals refine ⟨[], ?_⟩
    repeat (any_goals (first | exact True.intro | exact rfl | with_reducible_and_instances rfl | exact (by kernel_rfl) | refine And.intro ?_ ?_))
    all_goals conv => whnf
    · exact wk1 (by omega)
    · refine congrArg iA ?_
      rw [meetL_step _ hx]
      show _ = max _ _
      split <;> omega
    · refine congrArg iA ?_
      rw [meetL_step _ hx]
      show _ = min _ _
      split <;> omega
  · have hke : k = gs.length := by omega
    subst hke
    have hq := refRight_sat (meetL allG (gs.take gs.length))
    have ht : meetL allG (gs.take gs.length) = meetL allG gs := by rw [List.take_length]
    repeat (any_goals (first
      | exact True.intro
      | (refine Or.inl ?_; conv => whnf)
      | (refine And.intro (fun _ => ?_) tf; conv => whnf)
      | (refine And.intro ft (fun _ => ?_); conv => whnf)
      | (refine And.intro (by kernel_rfl) ?_; conv => whnf)
      | (refine And.intro (by decide) ?_; conv => whnf)
      | (refine And.intro (fun _ => ?_) (fun h => absurd h (by decide)); conv => whnf)
      | (refine And.intro (fun h => absurd h (by decide)) (fun _ => ?_); conv => whnf)
      | (refine And.intro (fun _ => ?_) (fun _ => ?_) <;> conv => whnf)
      | (refine ⟨_, _, hq.pu rfl rfl, ?_⟩; conv => whnf)))
    all_goals try (exfalso; simp only [decide_eq_true_eq, decide_eq_false_iff_not, Bool.not_eq_true', Bool.not_eq_false', Bool.not_eq_true, Bool.not_eq_false, beq_iff_eq, bne_iff_ne, beq_eq_false_iff_ne, bne_eq_false_iff_eq, ne_eq, Decidable.not_not] at *; first | omega | contradiction | (simp_all; done) | (simp_all; omega))
    · have h : okG (meetL allG (gs.take gs.length)) = false := (by (try simp only [decide_eq_true_eq, decide_eq_false_iff_not, Bool.not_eq_true', Bool.not_eq_false', Bool.not_eq_true, Bool.not_eq_false, beq_iff_eq, bne_iff_ne, beq_eq_false_iff_ne, bne_eq_false_iff_eq, ne_eq, Decidable.not_not, Int.natCast_eq_zero] at *); first | omega | assumption | (simp_all; done) | (simp_all; omega))
      rw [← ht, if_neg (by rw [h]; simp)]
      all_goals refine ⟨[], ?_⟩
      repeat (any_goals (first | exact True.intro | exact rfl | with_reducible_and_instances rfl | exact (by kernel_rfl) | refine And.intro ?_ ?_))
      all_goals conv => whnf
    · have h : okG (meetL allG (gs.take gs.length)) = true := (by (try simp only [decide_eq_true_eq, decide_eq_false_iff_not, Bool.not_eq_true', Bool.not_eq_false', Bool.not_eq_true, Bool.not_eq_false, beq_iff_eq, bne_iff_ne, beq_eq_false_iff_ne, bne_eq_false_iff_eq, ne_eq, Decidable.not_not, Int.natCast_eq_zero] at *); first | omega | assumption | (simp_all; done) | (simp_all; omega))
      rw [← ht, if_pos h]
      all_goals refine ⟨[], ?_⟩
      repeat (any_goals (first | exact True.intro | exact rfl | with_reducible_and_instances rfl | exact (by kernel_rfl) | refine And.intro ?_ ?_))
      all_goals conv => whnf
/-! ### the middle -/
theorem nat_avg (k : Nat) : ∀ (a b : Nat), a < 2 ^ k → b < 2 ^ k → a + b = 2 * (a &&& b) + (a ^^^ b) := by
  induction k with
  | zero => intro a b ha hb; simp at ha hb; subst ha hb; rfl
  | succ k ih =>
    intro a b ha hb
    have h := ih (a / 2) (b / 2) (by rw [Nat.pow_succ] at ha; omega) (by rw [Nat.pow_succ] at hb; omega)
    have e1 : (a &&& b) / 2 = a / 2 &&& b / 2 := Nat.and_div_two
    have e2 : (a ^^^ b) / 2 = a / 2 ^^^ b / 2 := Nat.xor_div_two
    have f1 : (a &&& b) % 2 = a % 2 &&& b % 2 := Nat.and_mod_two_pow (n := 1)
    have f2 : (a ^^^ b) % 2 = a % 2 ^^^ b % 2 := Nat.xor_mod_two_pow (n := 1)
    have f3 : a % 2 + b % 2 = 2 * (a % 2 &&& b % 2) + (a % 2 ^^^ b % 2) := by
      rcases Nat.mod_two_eq_zero_or_one a with h | h <;> rcases Nat.mod_two_eq_zero_or_one b with h' | h' <;> rw [h, h'] <;> rfl
    rw [← f1, ← f2] at f3
    rw [← e1, ← e2] at h
    omega
theorem avg_bv (x y : BitVec 64) : 2 * (x &&& y).toInt + (x ^^^ y).toInt = x.toInt + y.toInt := by
  have hn := nat_avg 64 x.toNat y.toNat (BitVec.isLt _) (BitVec.isLt _)
  rw [← BitVec.toNat_and, ← BitVec.toNat_xor] at hn
  rw [BitVec.toInt_eq_msb_cond x, BitVec.toInt_eq_msb_cond y, BitVec.toInt_eq_msb_cond (x &&& y), BitVec.toInt_eq_msb_cond (x ^^^ y), BitVec.msb_and, BitVec.msb_xor]
  generalize (x &&& y).toNat = C at *
  generalize (x ^^^ y).toNat = D at *
  generalize x.toNat = A at *
  generalize y.toNat = B at *
  cases x.msb <;> cases y.msb <;> simp <;> omega
theorem mid_floor (g : Int × Int) (h1 : -9223372036854775808 ≤ g.1 ∧ g.1 ≤ 9223372036854775807) (h2 : -9223372036854775808 ≤ g.2 ∧ g.2 ≤ 9223372036854775807) : midZ g = if okG g = true then (g.1 + g.2) / 2 else 0 := by
  unfold midZ
  split
  case isFalse => rfl
  show IntKind.i64.wrap (IntKind.i64.wrap ((BitVec.ofInt 64 g.1 &&& BitVec.ofInt 64 g.2).toNat : Int) + (IntKind.i64.wrap ((BitVec.ofInt 64 g.1 ^^^ BitVec.ofInt 64 g.2).toNat : Int)).fdiv (2 ^ min (1 : Int).toNat IntKind.i64.bits)) = _
  rw [toInt_i64, toInt_i64, show min (1 : Int).toNat IntKind.i64.bits = 1 from rfl, show (2 : Int) ^ 1 = 2 from rfl, Int.fdiv_eq_ediv_of_nonneg _ (by omega)]
  have ha : (BitVec.ofInt 64 g.1).toInt = g.1 := by rw [BitVec.toInt_ofInt]; exact Int.bmod_eq_of_le (by omega) (by omega)
  have hb : (BitVec.ofInt 64 g.2).toInt = g.2 := by rw [BitVec.toInt_ofInt]; exact Int.bmod_eq_of_le (by omega) (by omega)
  have key := avg_bv (BitVec.ofInt 64 g.1) (BitVec.ofInt 64 g.2)
  rw [ha, hb] at key
  show IntKind.i64.wrap ((BitVec.ofInt 64 g.1 &&& BitVec.ofInt 64 g.2).toInt + (BitVec.ofInt 64 g.1 ^^^ BitVec.ofInt 64 g.2).toInt / 2) = _
  rw [wi (by omega) (by omega)]
  omega
theorem refMid_sat (g : Int × Int) (h1 : -9223372036854775808 ≤ g.1 ∧ g.1 ≤ 9223372036854775807) (h2 : -9223372036854775808 ≤ g.2 ∧ g.2 ≤ 9223372036854775807) : Sat Try.prog 23 [gA g] [] (iA (if okG g = true then (g.1 + g.2) / 2 else 0)) [] := by
  have ri := refRight_sat g
  by_cases h : okG g = true
  case neg =>
    rw [if_neg h]
    refine sat_of_vc (T := tiOf Try.prog) (E := E0) Try.func23 rfl rfl hE0 hm0 rfl ?_
    conv => whnf
    repeat (any_goals (first
      | exact True.intro
      | (refine Or.inl ?_; conv => whnf)
      | (refine And.intro (fun _ => ?_) tf; conv => whnf)
      | (refine And.intro ft (fun _ => ?_); conv => whnf)
      | (refine And.intro (by kernel_rfl) ?_; conv => whnf)
      | (refine And.intro (by decide) ?_; conv => whnf)
      | (refine And.intro (fun _ => ?_) (fun h => absurd h (by decide)); conv => whnf)
      | (refine And.intro (fun h => absurd h (by decide)) (fun _ => ?_); conv => whnf)
      | (refine And.intro (fun _ => ?_) (fun _ => ?_) <;> conv => whnf)
      | (refine ⟨_, _, ri.pu rfl rfl, ?_⟩; conv => whnf)))
    all_goals try (exfalso; simp only [decide_eq_true_eq, decide_eq_false_iff_not, Bool.not_eq_true', Bool.not_eq_false', Bool.not_eq_true, Bool.not_eq_false, beq_iff_eq, bne_iff_ne, beq_eq_false_iff_ne, bne_eq_false_iff_eq, ne_eq, Decidable.not_not] at *; first | omega | contradiction | (simp_all; done) | (simp_all; omega))
    all_goals refine ⟨[], ?_⟩
    repeat (any_goals (first | exact True.intro | exact rfl | with_reducible_and_instances rfl | exact (by kernel_rfl) | refine And.intro ?_ ?_))
    all_goals conv => whnf
  rw [if_pos h]
  have o2 := of_num 2 (by omega)
  have oa := of_num g.1 h1
  have ob := of_num g.2 h2
  have ad := add_few (k := 4) (by omega) (few_i64 h1) (few_i64 h2)
  have fs := add_few_out (few_i64 h1) (few_i64 h2)
  have di := div_num (k := 5) (g.1 + g.2) 2 false (by omega) fs (by unfold few; decide) (by omega)
  have lo := long_num (divZ (g.1 + g.2) 2 false) (by have := few_len (few_div (up := false) fs (show (0 : Int) < 2 by omega)); omega)
  rw [longZ_in (show -9223372036854775808 ≤ divZ (g.1 + g.2) 2 false ∧ divZ (g.1 + g.2) 2 false ≤ 9223372036854775807 by show _ ≤ (g.1 + g.2) / 2 ∧ (g.1 + g.2) / 2 ≤ _; omega)] at lo
  refine sat_of_vc (T := tiOf Try.prog) (E := E0) Try.func23 rfl rfl hE0 hm0 rfl ?_
  conv => whnf
  repeat (any_goals (first
    | exact True.intro
    | (refine Or.inl ?_; conv => whnf)
    | (refine And.intro (fun _ => ?_) tf; conv => whnf)
    | (refine And.intro ft (fun _ => ?_); conv => whnf)
    | (refine And.intro (by kernel_rfl) ?_; conv => whnf)
    | (refine And.intro (by decide) ?_; conv => whnf)
    | (refine And.intro (fun _ => ?_) (fun h => absurd h (by decide)); conv => whnf)
    | (refine And.intro (fun h => absurd h (by decide)) (fun _ => ?_); conv => whnf)
    | (refine And.intro (fun _ => ?_) (fun _ => ?_) <;> conv => whnf)
    | (refine ⟨_, _, ri.pu rfl rfl, ?_⟩; conv => whnf)
    | (refine ⟨_, _, o2.pu rfl rfl, ?_⟩; conv => whnf)
    | (refine ⟨_, _, oa.pu rfl rfl, ?_⟩; conv => whnf)
    | (refine ⟨_, _, ob.pu rfl rfl, ?_⟩; conv => whnf)
    | (refine ⟨_, _, ad.pu rfl rfl, ?_⟩; conv => whnf)
    | (refine ⟨_, _, di.pu rfl rfl, ?_⟩; conv => whnf)
    | (refine ⟨_, _, lo.pu rfl rfl, ?_⟩; conv => whnf)))
  all_goals try (exfalso; simp only [decide_eq_true_eq, decide_eq_false_iff_not, Bool.not_eq_true', Bool.not_eq_false', Bool.not_eq_true, Bool.not_eq_false, beq_iff_eq, bne_iff_ne, beq_eq_false_iff_ne, bne_eq_false_iff_eq, ne_eq, Decidable.not_not] at *; first | omega | contradiction | (simp_all; done) | (simp_all; omega))
  all_goals refine ⟨[], ?_⟩
  repeat (any_goals (first | exact True.intro | exact rfl | with_reducible_and_instances rfl | exact (by kernel_rfl) | refine And.intro ?_ ?_))
  all_goals conv => whnf
end Go.Proofs.Ytgidaifoiljgoaa
/- The document's sweep: Votes, Best, Agree. -/
namespace Go.Proofs.Ytgidaifoiljgoaa
set_option linter.unusedSimpArgs false
set_option linter.unusedVariables false
open Go.RowKit
set_option maxRecDepth 100000
def hasG (x : Int) (g : Int × Int) : Bool := decide (g.1 ≤ x ∧ x ≤ g.2)
def votesN (x : Int) (gs : List (Int × Int)) : Nat := gs.countP (hasG x)
theorem votes_sat (x : Int) (gs : List (Int × Int)) (hn : gs.length ≤ 1000000000) : Sat Try.prog 94 [iA x, .d (.sl 2 (gs.map gR))] [] (iA (votesN x gs)) [] := by
  have hm : (gs.map gR).length = gs.length := List.length_map _
  refine sat_of_vc (T := tiOf Try.prog) (E := E0) Try.func94 rfl rfl hE0 hm0 rfl ?_
  conv => whnf
  repeat (any_goals (first
    | exact True.intro
    | (refine Or.inl ?_; conv => whnf)
    | (refine And.intro (fun _ => ?_) tf; conv => whnf)
    | (refine And.intro ft (fun _ => ?_); conv => whnf)
    | (refine And.intro (by kernel_rfl) ?_; conv => whnf)
    | (refine And.intro (by decide) ?_; conv => whnf)
    | (refine And.intro (fun _ => ?_) (fun h => absurd h (by decide)); conv => whnf)
    | (refine And.intro (fun h => absurd h (by decide)) (fun _ => ?_); conv => whnf)
    | (refine And.intro (fun _ => ?_) (fun _ => ?_) <;> conv => whnf)))
  refine ⟨Nat, fun k => k ≤ gs.length, fun k => ([(6, iA k), (5, iA (votesN x (gs.take k))), (0, iA x), (1, .d (.sl 2 (gs.map gR)))], []), fun k => gs.length - k, ⟨0, Nat.zero_le _, ?_⟩, ?_⟩
  · all_goals refine ⟨[], ?_⟩
    repeat (any_goals (first | exact True.intro | exact rfl | with_reducible_and_instances rfl | exact (by kernel_rfl) | refine And.intro ?_ ?_))
    all_goals conv => whnf
  intro k hk
  conv => whnf
  have hv : votesN x (gs.take k) ≤ gs.length := Nat.le_trans List.countP_le_length (by rw [List.length_take]; omega)
  by_cases hlt : k < gs.length
  · have hx : gs[k]? = some gs[k] := List.getElem?_eq_getElem hlt
    generalize gs[k] = g at hx
    have hst : votesN x (gs.take (k + 1)) = votesN x (gs.take k) + if hasG x g = true then 1 else 0 := count_take_succ hx
    have nx : ∀ b : Bool, hasG x g = b → votesN x (gs.take (k + 1)) = votesN x (gs.take k) + if b = true then 1 else 0 := fun b h => by rw [hst, h]
    repeat (any_goals (first
      | exact True.intro
      | (refine Or.inl ?_; conv => whnf)
      | (refine And.intro (fun _ => ?_) tf; conv => whnf)
      | (refine And.intro ft (fun _ => ?_); conv => whnf)
      | (refine And.intro (by kernel_rfl) ?_; conv => whnf)
      | (refine And.intro (by decide) ?_; conv => whnf)
      | (refine And.intro (fun _ => ?_) (fun h => absurd h (by decide)); conv => whnf)
      | (refine And.intro (fun h => absurd h (by decide)) (fun _ => ?_); conv => whnf)
      | (refine ⟨k, _, rfl, map_get hx, ?_⟩; conv => whnf)
      | (refine And.intro (fun _ => ?_) (fun _ => ?_) <;> conv => whnf)
      | (refine ⟨_, _, (refRight_sat g).pu rfl rfl, ?_⟩; conv => whnf)))
    all_goals try (exfalso; simp only [decide_eq_true_eq, decide_eq_false_iff_not, Bool.not_eq_true', Bool.not_eq_false', Bool.not_eq_true, Bool.not_eq_false, beq_iff_eq, bne_iff_ne, beq_eq_false_iff_ne, bne_eq_false_iff_eq, ne_eq, Decidable.not_not] at *; first | omega | contradiction | (simp_all; done) | (simp_all; omega))
    · have h : hasG x g = true := decide_eq_true ⟨(by (try simp only [decide_eq_true_eq, decide_eq_false_iff_not, Bool.not_eq_true', Bool.not_eq_false', Bool.not_eq_true, Bool.not_eq_false, beq_iff_eq, bne_iff_ne, beq_eq_false_iff_ne, bne_eq_false_iff_eq, ne_eq, Decidable.not_not, Int.natCast_eq_zero] at *); first | omega | assumption | (simp_all; done) | (simp_all; omega)), (by (try simp only [decide_eq_true_eq, decide_eq_false_iff_not, Bool.not_eq_true', Bool.not_eq_false', Bool.not_eq_true, Bool.not_eq_false, beq_iff_eq, bne_iff_ne, beq_eq_false_iff_ne, bne_eq_false_iff_eq, ne_eq, Decidable.not_not, Int.natCast_eq_zero] at *); first | omega | assumption | (simp_all; done) | (simp_all; omega))⟩
      refine ⟨k + 1, hlt, show gs.length - (k + 1) < gs.length - k by omega, ?_⟩
      all_goals refine ⟨[], ?_⟩
      repeat (any_goals (first | exact True.intro | exact rfl | with_reducible_and_instances rfl | exact (by kernel_rfl) | refine And.intro ?_ ?_))
      all_goals conv => whnf
      · exact wk1 (by omega)
      · rw [nx _ h]
        exact wk1 (by omega)
    · have h : hasG x g = false := decide_eq_false fun q => by have := q.2; first | omega | (simp_all; done) | (simp_all; omega)
      refine ⟨k + 1, hlt, show gs.length - (k + 1) < gs.length - k by omega, ?_⟩
      all_goals refine ⟨[], ?_⟩
      repeat (any_goals (first | exact True.intro | exact rfl | with_reducible_and_instances rfl | exact (by kernel_rfl) | refine And.intro ?_ ?_))
      all_goals conv => whnf
      · exact wk1 (by omega)
      · rw [nx _ h]; rfl
    · have h : hasG x g = false := decide_eq_false fun q => by have := q.1; first | omega | (simp_all; done) | (simp_all; omega)
      refine ⟨k + 1, hlt, show gs.length - (k + 1) < gs.length - k by omega, ?_⟩
      all_goals refine ⟨[], ?_⟩
      repeat (any_goals (first | exact True.intro | exact rfl | with_reducible_and_instances rfl | exact (by kernel_rfl) | refine And.intro ?_ ?_))
      all_goals conv => whnf
      · exact wk1 (by omega)
      · rw [nx _ h]; rfl
    · have h : hasG x g = false := decide_eq_false fun q => by have : okG g = true := decide_eq_true (by omega); simp_all
      refine ⟨k + 1, hlt, show gs.length - (k + 1) < gs.length - k by omega, ?_⟩
      all_goals refine ⟨[], ?_⟩
      repeat (any_goals (first | exact True.intro | exact rfl | with_reducible_and_instances rfl | exact (by kernel_rfl) | refine And.intro ?_ ?_))
      all_goals conv => whnf
      · exact wk1 (by omega)
      · rw [nx _ h]; rfl
  · have hke : k = gs.length := by omega
    subst hke
    repeat (any_goals (first
      | exact True.intro
      | (refine Or.inl ?_; conv => whnf)
      | (refine And.intro (fun _ => ?_) tf; conv => whnf)
      | (refine And.intro ft (fun _ => ?_); conv => whnf)
      | (refine And.intro (by kernel_rfl) ?_; conv => whnf)
      | (refine And.intro (by decide) ?_; conv => whnf)
      | (refine And.intro (fun _ => ?_) (fun h => absurd h (by decide)); conv => whnf)
      | (refine And.intro (fun h => absurd h (by decide)) (fun _ => ?_); conv => whnf)
      | (refine And.intro (fun _ => ?_) (fun _ => ?_) <;> conv => whnf)))
    all_goals try (exfalso; simp only [decide_eq_true_eq, decide_eq_false_iff_not, Bool.not_eq_true', Bool.not_eq_false', Bool.not_eq_true, Bool.not_eq_false, beq_iff_eq, bne_iff_ne, beq_eq_false_iff_ne, bne_eq_false_iff_eq, ne_eq, Decidable.not_not] at *; first | omega | contradiction | (simp_all; done) | (simp_all; omega))
    all_goals refine ⟨[], ?_⟩
    repeat (any_goals (first | exact True.intro | exact rfl | with_reducible_and_instances rfl | exact (by kernel_rfl) | refine And.intro ?_ ?_))
    all_goals conv => whnf
    rw [List.take_length]
def bstep (gs : List (Int × Int)) (s : Nat × Int) (g : Int × Int) : Nat × Int :=
  if s.1 < votesN g.1 gs ∨ (votesN g.1 gs = s.1 ∧ 0 < votesN g.1 gs ∧ g.1 < s.2) then (votesN g.1 gs, g.1) else s
def bestS (gs : List (Int × Int)) : Nat × Int := gs.foldl (bstep gs) (0, 0)
def hstep (x : Int) (h : Int) (g : Int × Int) : Int := if hasG x g = true then min h g.2 else h
def bestH (x : Int) (gs : List (Int × Int)) : Int := gs.foldl (hstep x) 9223372036854775807
def bestR (gs : List (Int × Int)) : (Int × Int) × Nat := if (bestS gs).1 = 0 then ((0, 0), 0) else (((bestS gs).2, bestH (bestS gs).2 gs), (bestS gs).1)
theorem votes_le (x : Int) (gs : List (Int × Int)) : votesN x gs ≤ gs.length := List.countP_le_length
theorem best_sat (gs : List (Int × Int)) (hn : gs.length ≤ 1000000000) : Sat Try.prog 70 [.d (.sl 2 (gs.map gR))] [] (.tup [gA (bestR gs).1, iA (bestR gs).2]) [] := by
  have hm : (gs.map gR).length = gs.length := List.length_map _
  refine sat_of_vc (T := tiOf Try.prog) (E := E0) Try.func70 rfl rfl hE0 hm0 rfl ?_
  conv => whnf
  repeat (any_goals (first
    | exact True.intro
    | (refine Or.inl ?_; conv => whnf)
    | (refine And.intro (fun _ => ?_) tf; conv => whnf)
    | (refine And.intro ft (fun _ => ?_); conv => whnf)
    | (refine And.intro (by kernel_rfl) ?_; conv => whnf)
    | (refine And.intro (by decide) ?_; conv => whnf)
    | (refine And.intro (fun _ => ?_) (fun h => absurd h (by decide)); conv => whnf)
    | (refine And.intro (fun h => absurd h (by decide)) (fun _ => ?_); conv => whnf)
    | (refine And.intro (fun _ => ?_) (fun _ => ?_) <;> conv => whnf)))
  refine ⟨Nat, fun k => k ≤ gs.length, fun k => ([(6, iA k), (4, iA ((gs.take k).foldl (bstep gs) (0, 0)).1), (5, .ptr 1 0), (2, .ptr 0 0), (0, .d (.sl 2 (gs.map gR)))], [.cells [iA 0, iA 0], .cells [iA ((gs.take k).foldl (bstep gs) (0, 0)).2, iA ((gs.take k).foldl (bstep gs) (0, 0)).2]]), fun k => gs.length - k, ⟨0, Nat.zero_le _, ?_⟩, ?_⟩
  · all_goals refine ⟨[], ?_⟩
    repeat (any_goals (first | exact True.intro | exact rfl | with_reducible_and_instances rfl | exact (by kernel_rfl) | refine And.intro ?_ ?_))
    all_goals conv => whnf
  intro k hk
  conv => whnf
  by_cases hlt : k < gs.length
  · have hx : gs[k]? = some gs[k] := List.getElem?_eq_getElem hlt
    generalize gs[k] = g at hx
    have vs := votes_sat g.1 gs hn
    have hst : (gs.take (k + 1)).foldl (bstep gs) (0, 0) = bstep gs ((gs.take k).foldl (bstep gs) (0, 0)) g := foldl_take_succ hx
    have hs1 : (((gs.take k).foldl (bstep gs) (0, 0)).1 < votesN g.1 gs ∨ (votesN g.1 gs = ((gs.take k).foldl (bstep gs) (0, 0)).1 ∧ 0 < votesN g.1 gs ∧ g.1 < ((gs.take k).foldl (bstep gs) (0, 0)).2)) → bstep gs ((gs.take k).foldl (bstep gs) (0, 0)) g = (votesN g.1 gs, g.1) := fun h => if_pos h
    have hs0 : ¬ (((gs.take k).foldl (bstep gs) (0, 0)).1 < votesN g.1 gs ∨ (votesN g.1 gs = ((gs.take k).foldl (bstep gs) (0, 0)).1 ∧ 0 < votesN g.1 gs ∧ g.1 < ((gs.take k).foldl (bstep gs) (0, 0)).2)) → bstep gs ((gs.take k).foldl (bstep gs) (0, 0)) g = (gs.take k).foldl (bstep gs) (0, 0) := fun h => if_neg h
    repeat (any_goals (first
      | exact True.intro
      | (refine Or.inl ?_; conv => whnf)
      | (refine And.intro (fun _ => ?_) tf; conv => whnf)
      | (refine And.intro ft (fun _ => ?_); conv => whnf)
      | (refine And.intro (by kernel_rfl) ?_; conv => whnf)
      | (refine And.intro (by decide) ?_; conv => whnf)
      | (refine And.intro (fun _ => ?_) (fun h => absurd h (by decide)); conv => whnf)
      | (refine And.intro (fun h => absurd h (by decide)) (fun _ => ?_); conv => whnf)
      | (refine ⟨k, _, rfl, map_get hx, ?_⟩; conv => whnf)
      | (refine And.intro (fun _ => ?_) (fun _ => ?_) <;> conv => whnf)
      | (refine ⟨_, _, vs.pu rfl rfl, ?_⟩; conv => whnf)))
    all_goals try (exfalso; simp only [decide_eq_true_eq, decide_eq_false_iff_not, Bool.not_eq_true', Bool.not_eq_false', Bool.not_eq_true, Bool.not_eq_false, beq_iff_eq, bne_iff_ne, beq_eq_false_iff_ne, bne_eq_false_iff_eq, ne_eq, Decidable.not_not] at *; first | omega | contradiction | (simp_all; done) | (simp_all; omega))
    all_goals refine ⟨k + 1, hlt, show gs.length - (k + 1) < gs.length - k by omega, ?_⟩
    · have h := hs1 (by simp only [decide_eq_true_eq, beq_iff_eq] at *; omega)
      rw [h] at hst
      all_goals refine ⟨[], ?_⟩
      repeat (any_goals (first | exact True.intro | exact rfl | with_reducible_and_instances rfl | exact (by kernel_rfl) | refine And.intro ?_ ?_))
      all_goals conv => whnf
      · exact wk1 (by omega)
      all_goals rw [hst]
    · have h := hs0 (by simp only [decide_eq_true_eq, decide_eq_false_iff_not, beq_iff_eq] at *; omega)
      rw [h] at hst
      all_goals refine ⟨[], ?_⟩
      repeat (any_goals (first | exact True.intro | exact rfl | with_reducible_and_instances rfl | exact (by kernel_rfl) | refine And.intro ?_ ?_))
      all_goals conv => whnf
      · exact wk1 (by omega)
      all_goals rw [hst]
    · have h := hs0 (by simp only [decide_eq_true_eq, decide_eq_false_iff_not, beq_iff_eq] at *; omega)
      rw [h] at hst
      all_goals refine ⟨[], ?_⟩
      repeat (any_goals (first | exact True.intro | exact rfl | with_reducible_and_instances rfl | exact (by kernel_rfl) | refine And.intro ?_ ?_))
      all_goals conv => whnf
      · exact wk1 (by omega)
      all_goals rw [hst]
    · have h := hs0 (by simp only [decide_eq_true_eq, decide_eq_false_iff_not, beq_eq_false_iff_ne] at *; omega)
      rw [h] at hst
      all_goals refine ⟨[], ?_⟩
      repeat (any_goals (first | exact True.intro | exact rfl | with_reducible_and_instances rfl | exact (by kernel_rfl) | refine And.intro ?_ ?_))
      all_goals conv => whnf
      · exact wk1 (by omega)
      all_goals rw [hst]
    · have h := hs1 (by simp only [decide_eq_true_eq, beq_iff_eq] at *; omega)
      rw [h] at hst
      all_goals refine ⟨[], ?_⟩
      repeat (any_goals (first | exact True.intro | exact rfl | with_reducible_and_instances rfl | exact (by kernel_rfl) | refine And.intro ?_ ?_))
      all_goals conv => whnf
      · exact wk1 (by omega)
      all_goals rw [hst]
  · have hke : k = gs.length := by omega
    subst hke
    have hb : (gs.take gs.length).foldl (bstep gs) (0, 0) = bestS gs := by rw [List.take_length]; rfl
    repeat (any_goals (first
      | exact True.intro
      | (refine Or.inl ?_; conv => whnf)
      | (refine And.intro (fun _ => ?_) tf; conv => whnf)
      | (refine And.intro ft (fun _ => ?_); conv => whnf)
      | (refine And.intro (by kernel_rfl) ?_; conv => whnf)
      | (refine And.intro (by decide) ?_; conv => whnf)
      | (refine And.intro (fun _ => ?_) (fun h => absurd h (by decide)); conv => whnf)
      | (refine And.intro (fun h => absurd h (by decide)) (fun _ => ?_); conv => whnf)
      | (refine And.intro (fun _ => ?_) (fun _ => ?_) <;> conv => whnf)))
    all_goals try (exfalso; simp only [decide_eq_true_eq, decide_eq_false_iff_not, Bool.not_eq_true', Bool.not_eq_false', Bool.not_eq_true, Bool.not_eq_false, beq_iff_eq, bne_iff_ne, beq_eq_false_iff_ne, bne_eq_false_iff_eq, ne_eq, Decidable.not_not] at *; first | omega | contradiction | (simp_all; done) | (simp_all; omega))
    · have hr : bestR gs = ((0, 0), 0) := if_pos (by have h := ‹(_ == _) = true›; rw [hb] at h; simp only [beq_iff_eq] at h; omega)
      rw [hr]
      all_goals refine ⟨[], ?_⟩
      repeat (any_goals (first | exact True.intro | exact rfl | with_reducible_and_instances rfl | exact (by kernel_rfl) | refine And.intro ?_ ?_))
      all_goals conv => whnf
    · have hr : bestR gs = (((bestS gs).2, bestH (bestS gs).2 gs), (bestS gs).1) := if_neg (by have h := ‹(_ == _) = false›; rw [hb] at h; simp only [beq_eq_false_iff_ne] at h; omega)
      rw [hr]
      rw [hb]
      generalize (bestS gs).2 = x
      refine ⟨Nat, fun k => k ≤ gs.length, fun k => ([(8, iA k), (4, iA (bestS gs).1), (5, .ptr 1 0), (2, .ptr 0 0), (0, .d (.sl 2 (gs.map gR)))], [.cells [iA 0, iA 0], .cells [iA x, iA ((gs.take k).foldl (hstep x) 9223372036854775807)]]), fun k => gs.length - k, ⟨0, Nat.zero_le _, ?_⟩, ?_⟩
      · all_goals refine ⟨[], ?_⟩
        repeat (any_goals (first | exact True.intro | exact rfl | with_reducible_and_instances rfl | exact (by kernel_rfl) | refine And.intro ?_ ?_))
        all_goals conv => whnf
        all_goals rw [hb]
      intro k hk
      conv => whnf
      by_cases hlt : k < gs.length
      · have hx : gs[k]? = some gs[k] := List.getElem?_eq_getElem hlt
        generalize gs[k] = g at hx
        have hst : (gs.take (k + 1)).foldl (hstep x) 9223372036854775807 = hstep x ((gs.take k).foldl (hstep x) 9223372036854775807) g := foldl_take_succ hx
        have nx : ∀ b : Bool, hasG x g = b → (gs.take (k + 1)).foldl (hstep x) 9223372036854775807 = if b = true then min ((gs.take k).foldl (hstep x) 9223372036854775807) g.2 else (gs.take k).foldl (hstep x) 9223372036854775807 := fun b h => by rw [hst]; unfold hstep; rw [h]
        repeat (any_goals (first
          | exact True.intro
          | (refine Or.inl ?_; conv => whnf)
          | (refine And.intro (fun _ => ?_) tf; conv => whnf)
          | (refine And.intro ft (fun _ => ?_); conv => whnf)
          | (refine And.intro (by kernel_rfl) ?_; conv => whnf)
          | (refine And.intro (by decide) ?_; conv => whnf)
          | (refine And.intro (fun _ => ?_) (fun h => absurd h (by decide)); conv => whnf)
          | (refine And.intro (fun h => absurd h (by decide)) (fun _ => ?_); conv => whnf)
          | (refine ⟨k, _, rfl, map_get hx, ?_⟩; conv => whnf)
          | (refine And.intro (fun _ => ?_) (fun _ => ?_) <;> conv => whnf)
          | (refine ⟨_, _, (refRight_sat g).pu rfl rfl, ?_⟩; conv => whnf)))
        all_goals try (exfalso; simp only [decide_eq_true_eq, decide_eq_false_iff_not, Bool.not_eq_true', Bool.not_eq_false', Bool.not_eq_true, Bool.not_eq_false, beq_iff_eq, bne_iff_ne, beq_eq_false_iff_ne, bne_eq_false_iff_eq, ne_eq, Decidable.not_not] at *; first | omega | contradiction | (simp_all; done) | (simp_all; omega))
        all_goals refine ⟨k + 1, hlt, show gs.length - (k + 1) < gs.length - k by omega, ?_⟩
        · have h := nx true (decide_eq_true ⟨of_decide_eq_true ‹decide (g.1 ≤ x) = true›, of_decide_eq_true ‹decide (g.2 ≥ x) = true›⟩)
          all_goals refine ⟨[], ?_⟩
          repeat (any_goals (first | exact True.intro | exact rfl | with_reducible_and_instances rfl | exact (by kernel_rfl) | refine And.intro ?_ ?_))
          all_goals conv => whnf
          · exact wk1 (by omega)
          · refine congrArg iA ?_
            rw [h, if_pos rfl]
            split <;> omega
        · have h := nx false (decide_eq_false fun q => of_decide_eq_false ‹decide (g.2 ≥ x) = false› q.2)
          all_goals refine ⟨[], ?_⟩
          repeat (any_goals (first | exact True.intro | exact rfl | with_reducible_and_instances rfl | exact (by kernel_rfl) | refine And.intro ?_ ?_))
          all_goals conv => whnf
          · exact wk1 (by omega)
          · rw [h]; rfl
        · have h := nx false (decide_eq_false fun q => of_decide_eq_false ‹decide (g.1 ≤ x) = false› q.1)
          all_goals refine ⟨[], ?_⟩
          repeat (any_goals (first | exact True.intro | exact rfl | with_reducible_and_instances rfl | exact (by kernel_rfl) | refine And.intro ?_ ?_))
          all_goals conv => whnf
          · exact wk1 (by omega)
          · rw [h]; rfl
        · have h := nx false (decide_eq_false fun q => by have : okG g = true := decide_eq_true (by omega); simp_all)
          all_goals refine ⟨[], ?_⟩
          repeat (any_goals (first | exact True.intro | exact rfl | with_reducible_and_instances rfl | exact (by kernel_rfl) | refine And.intro ?_ ?_))
          all_goals conv => whnf
          · exact wk1 (by omega)
          · rw [h]; rfl
      · have hke : k = gs.length := by omega
        subst hke
        repeat (any_goals (first
          | exact True.intro
          | (refine Or.inl ?_; conv => whnf)
          | (refine And.intro (fun _ => ?_) tf; conv => whnf)
          | (refine And.intro ft (fun _ => ?_); conv => whnf)
          | (refine And.intro (by kernel_rfl) ?_; conv => whnf)
          | (refine And.intro (by decide) ?_; conv => whnf)
          | (refine And.intro (fun _ => ?_) (fun h => absurd h (by decide)); conv => whnf)
          | (refine And.intro (fun h => absurd h (by decide)) (fun _ => ?_); conv => whnf)
          | (refine And.intro (fun _ => ?_) (fun _ => ?_) <;> conv => whnf)))
        all_goals try (exfalso; simp only [decide_eq_true_eq, decide_eq_false_iff_not, Bool.not_eq_true', Bool.not_eq_false', Bool.not_eq_true, Bool.not_eq_false, beq_iff_eq, bne_iff_ne, beq_eq_false_iff_ne, bne_eq_false_iff_eq, ne_eq, Decidable.not_not] at *; first | omega | contradiction | (simp_all; done) | (simp_all; omega))
        all_goals refine ⟨[], ?_⟩
        repeat (any_goals (first | exact True.intro | exact rfl | with_reducible_and_instances rfl | exact (by kernel_rfl) | refine And.intro ?_ ?_))
        all_goals conv => whnf
        unfold bestH
        rw [List.take_length]
def agreeRef (gs : List (Int × Int)) : Bool := decide (0 < gs.length) && decide ((bestR gs).2 = gs.length)
theorem refAgree_sat (gs : List (Int × Int)) (hn : gs.length ≤ 1000000000) : Sat Try.prog 48 [.d (.sl 2 (gs.map gR))] [] (bA (agreeRef gs)) [] := by
  have hm : (gs.map gR).length = gs.length := List.length_map _
  have be := best_sat gs hn
  refine sat_of_vc (T := tiOf Try.prog) (E := E0) Try.func48 rfl rfl hE0 hm0 rfl ?_
  conv => whnf
  repeat (any_goals (first
    | exact True.intro
    | (refine Or.inl ?_; conv => whnf)
    | (refine And.intro (fun _ => ?_) tf; conv => whnf)
    | (refine And.intro ft (fun _ => ?_); conv => whnf)
    | (refine And.intro (by kernel_rfl) ?_; conv => whnf)
    | (refine And.intro (by decide) ?_; conv => whnf)
    | (refine And.intro (fun _ => ?_) (fun h => absurd h (by decide)); conv => whnf)
    | (refine And.intro (fun h => absurd h (by decide)) (fun _ => ?_); conv => whnf)
    | (refine And.intro (fun _ => ?_) (fun _ => ?_) <;> conv => whnf)
    | (refine ⟨_, _, be.pu rfl rfl, ?_⟩; conv => whnf)))
  · have h1 := of_decide_eq_true ‹decide ((_ : Int) > 0) = true›
    have hr : agreeRef gs = (((bestR gs).2 : Int) == ((gs.map gR).length : Int)) := by
      unfold agreeRef
      rw [decide_eq_true (by omega), Bool.true_and, hm, Bool.eq_iff_iff, decide_eq_true_eq, beq_iff_eq]
      omega
    rw [hr]
    all_goals refine ⟨[], ?_⟩
    repeat (any_goals (first | exact True.intro | exact rfl | with_reducible_and_instances rfl | exact (by kernel_rfl) | refine And.intro ?_ ?_))
    all_goals conv => whnf
  · have h1 := of_decide_eq_false ‹decide ((_ : Int) > 0) = false›
    have hr : agreeRef gs = false := by
      unfold agreeRef
      rw [decide_eq_false (by omega), Bool.false_and]
    rw [hr]
    all_goals refine ⟨[], ?_⟩
    repeat (any_goals (first | exact True.intro | exact rfl | with_reducible_and_instances rfl | exact (by kernel_rfl) | refine And.intro ?_ ?_))
    all_goals conv => whnf
end Go.Proofs.Ytgidaifoiljgoaa
/- clock.Clock.Set, and that the layer's code is alive, by conditions. -/
namespace Go.Proofs.Ytgidaifoiljgoaa
set_option linter.unusedSimpArgs false
set_option linter.unusedVariables false
open Go.RowKit
set_option maxRecDepth 100000
def setC (s : CSt) (held : Bool) (k : Int) (l : List Smp) : CSt × Nat :=
  if 8 < l.length ∨ k < 0 then (s, 10) else if l.all okS = true then (⟨s.rho, s.least, held, k, l⟩, 0) else (s, 10)
theorem all_hit {α : Type} {p : α → Bool} {l : List α} {k : Nat} {x : α} (hx : l[k]? = some x) (hp : p x = false) : ¬ l.all p = true := by
  intro h
  have := List.all_eq_true.1 h x (List.mem_of_getElem? hx)
  rw [hp] at this; cases this
theorem all_next {α : Type} {p : α → Bool} {l : List α} {k : Nat} {x : α} (hf : (l.take k).all p = true) (hx : l[k]? = some x) (hp : p x = true) : (l.take (k + 1)).all p = true := by
  rw [List.take_add_one, hx, List.all_append, hf]; simp [hp]
theorem set_sat (s : CSt) (held : Bool) (z : Int) (l : List Smp) (hl : l.length ≤ 140737488351232) : Sat Try.prog 41 [.ptr 0 0, bA held, iA z, .own 2] [cR s, .sl 4 (s.list.map sR), .sl 4 (l.map sR)] (iA (setC s held z l).2)
    [.cells [iA (setC s held z l).1.rho, iA (setC s held z l).1.least, bA (setC s held z l).1.held, iA (setC s held z l).1.streak, .own 3], .dead, .sl 4 (l.map sR), .sl 4 ((setC s held z l).1.list.map sR)] := by
  refine sat_of_vc (T := tiOf Try.prog) (E := E0) Try.func41 rfl rfl hE0 hm0 rfl ?_
  conv => whnf
  repeat (any_goals (first
    | exact True.intro
    | (refine And.intro (fun _ => ?_) tf; conv => whnf)
    | (refine And.intro ft (fun _ => ?_); conv => whnf)
    | (refine And.intro (by kernel_rfl) ?_; conv => whnf)
    | (refine And.intro (by decide) ?_; conv => whnf)
    | (refine And.intro (fun _ => ?_) (fun h => absurd h (by decide)); conv => whnf)
    | (refine And.intro (fun h => absurd h (by decide)) (fun _ => ?_); conv => whnf)
    | (refine And.intro (fun _ => ?_) (fun _ => ?_) <;> conv => whnf)))
  all_goals try (refine Or.inl ?_; conv => whnf)
  repeat (any_goals (first
    | exact True.intro
    | (refine And.intro (fun _ => ?_) tf; conv => whnf)
    | (refine And.intro ft (fun _ => ?_); conv => whnf)
    | (refine And.intro (by kernel_rfl) ?_; conv => whnf)
    | (refine And.intro (by decide) ?_; conv => whnf)
    | (refine And.intro (fun _ => ?_) (fun h => absurd h (by decide)); conv => whnf)
    | (refine And.intro (fun h => absurd h (by decide)) (fun _ => ?_); conv => whnf)
    | (refine And.intro (fun _ => ?_) (fun _ => ?_) <;> conv => whnf)))
  all_goals try (exfalso; simp only [decide_eq_true_eq, decide_eq_false_iff_not, Bool.not_eq_true', Bool.not_eq_false', Bool.not_eq_true, Bool.not_eq_false, beq_iff_eq, bne_iff_ne, beq_eq_false_iff_ne, bne_eq_false_iff_eq, ne_eq, Decidable.not_not] at *; first | omega | contradiction | (simp_all; done) | (simp_all; omega))
  · have hr : setC s held z l = (s, 10) := by unfold setC; rw [if_pos (by simp at *; omega)]
    rw [hr]
    all_goals refine ⟨[(1, 3)], ?_⟩
    repeat (any_goals (first | exact True.intro | exact rfl | with_reducible_and_instances rfl | exact (by kernel_rfl) | refine And.intro ?_ ?_))
    all_goals conv => whnf
  · have h0 : ¬ (8 < l.length ∨ z < 0) := by simp at *; omega
    all_goals try (refine Or.inl ?_; conv => whnf)
    repeat (any_goals (first
      | exact True.intro
      | (refine And.intro (fun _ => ?_) tf; conv => whnf)
      | (refine And.intro ft (fun _ => ?_); conv => whnf)
      | (refine And.intro (by kernel_rfl) ?_; conv => whnf)
      | (refine And.intro (by decide) ?_; conv => whnf)
      | (refine And.intro (fun _ => ?_) (fun h => absurd h (by decide)); conv => whnf)
      | (refine And.intro (fun h => absurd h (by decide)) (fun _ => ?_); conv => whnf)
      | (refine And.intro (fun _ => ?_) (fun _ => ?_) <;> conv => whnf)))
    refine ⟨Nat, fun k => k ≤ l.length ∧ (l.take k).all okS = true, fun k => ([(20, iA k), (19, iA (l.map sR).length), (18, .own 2), (0, .ptr 0 0), (1, bA held), (2, iA z), (3, .own 2)], [cR s, .sl 4 (s.list.map sR), .sl 4 (l.map sR)]), fun k => l.length - k, ⟨0, ⟨Nat.zero_le _, rfl⟩, ?_⟩, ?_⟩
    · all_goals refine ⟨[], ?_⟩
      repeat (any_goals (first | exact True.intro | exact rfl | with_reducible_and_instances rfl | exact (by kernel_rfl) | refine And.intro ?_ ?_))
      all_goals conv => whnf
    rintro k ⟨hk, hf⟩
    conv => whnf
    by_cases hlt : k < l.length
    · have hx : l[k]? = some l[k] := List.getElem?_eq_getElem hlt
      repeat (any_goals (first
        | exact True.intro
        | (refine And.intro (fun _ => ?_) tf; conv => whnf)
        | (refine And.intro ft (fun _ => ?_); conv => whnf)
        | (refine And.intro (by kernel_rfl) ?_; conv => whnf)
        | (refine And.intro (by decide) ?_; conv => whnf)
        | (refine And.intro (fun _ => ?_) (fun h => absurd h (by decide)); conv => whnf)
        | (refine And.intro (fun h => absurd h (by decide)) (fun _ => ?_); conv => whnf)
        | (refine And.intro (fun _ => ?_) (fun h => absurd h (by simpa using hlt)); conv => whnf)
        | (refine And.intro (fun _ => ?_) (fun _ => ?_) <;> conv => whnf)))
      all_goals try (refine Or.inl ?_; conv => whnf)
      repeat (any_goals (first
        | exact True.intro
        | (refine And.intro (fun _ => ?_) tf; conv => whnf)
        | (refine And.intro ft (fun _ => ?_); conv => whnf)
        | (refine And.intro (by kernel_rfl) ?_; conv => whnf)
        | (refine And.intro (by decide) ?_; conv => whnf)
        | (refine And.intro (fun _ => ?_) (fun h => absurd h (by decide)); conv => whnf)
        | (refine And.intro (fun h => absurd h (by decide)) (fun _ => ?_); conv => whnf)
        | (refine And.intro (fun _ => ?_) (fun _ => ?_) <;> conv => whnf)))
      all_goals try (exfalso; simp only [decide_eq_true_eq, decide_eq_false_iff_not, Bool.not_eq_true', Bool.not_eq_false', Bool.not_eq_true, Bool.not_eq_false, beq_iff_eq, bne_iff_ne, beq_eq_false_iff_ne, bne_eq_false_iff_eq, ne_eq, Decidable.not_not] at *; first | omega | contradiction | (simp_all; done) | (simp_all; omega))
      all_goals try (refine Or.inl ?_; conv => whnf)
      repeat (any_goals (first
        | exact True.intro
        | (refine And.intro (fun _ => ?_) tf; conv => whnf)
        | (refine And.intro ft (fun _ => ?_); conv => whnf)
        | (refine And.intro (by kernel_rfl) ?_; conv => whnf)
        | (refine And.intro (by decide) ?_; conv => whnf)
        | (refine And.intro (fun _ => ?_) (fun h => absurd h (by decide)); conv => whnf)
        | (refine And.intro (fun h => absurd h (by decide)) (fun _ => ?_); conv => whnf)
        | (refine ⟨_, rfl, by simpa using hlt, ?_⟩; conv => whnf)
        | (refine ⟨_, map_get hx, ?_⟩; conv => whnf)
        | (refine And.intro (fun _ => ?_) (fun _ => ?_) <;> conv => whnf)
        | (refine ⟨_, _, (right_sat _).pu rfl rfl, ?_⟩; conv => whnf)))
      all_goals try (refine Or.inl ?_; conv => whnf)
      repeat (any_goals (first
        | exact True.intro
        | (refine And.intro (fun _ => ?_) tf; conv => whnf)
        | (refine And.intro ft (fun _ => ?_); conv => whnf)
        | (refine And.intro (by kernel_rfl) ?_; conv => whnf)
        | (refine And.intro (by decide) ?_; conv => whnf)
        | (refine And.intro (fun _ => ?_) (fun h => absurd h (by decide)); conv => whnf)
        | (refine And.intro (fun h => absurd h (by decide)) (fun _ => ?_); conv => whnf)
        | (refine And.intro (fun _ => ?_) (fun _ => ?_) <;> conv => whnf)))
      · have hr : setC s held z l = (s, 10) := by unfold setC; rw [if_neg h0, if_neg (all_hit hx (by (try simp only [decide_eq_true_eq, decide_eq_false_iff_not, Bool.not_eq_true', Bool.not_eq_false', Bool.not_eq_true, Bool.not_eq_false, beq_iff_eq, bne_iff_ne, beq_eq_false_iff_ne, bne_eq_false_iff_eq, ne_eq, Decidable.not_not, Int.natCast_eq_zero] at *); first | omega | assumption | (simp_all; done) | (simp_all; omega)))]
        rw [hr]
        all_goals refine ⟨[(1, 4), (3, 4)], ?_⟩
        repeat (any_goals (first | exact True.intro | exact rfl | with_reducible_and_instances rfl | exact (by kernel_rfl) | refine And.intro ?_ ?_))
        all_goals conv => whnf
      · refine ⟨k + 1, ⟨hlt, all_next hf hx (by (try simp only [decide_eq_true_eq, decide_eq_false_iff_not, Bool.not_eq_true', Bool.not_eq_false', Bool.not_eq_true, Bool.not_eq_false, beq_iff_eq, bne_iff_ne, beq_eq_false_iff_ne, bne_eq_false_iff_eq, ne_eq, Decidable.not_not, Int.natCast_eq_zero] at *); first | omega | assumption | (simp_all; done) | (simp_all; omega))⟩, show l.length - (k + 1) < l.length - k by omega, ?_⟩
        all_goals refine ⟨[], ?_⟩
        repeat (any_goals (first | exact True.intro | exact rfl | with_reducible_and_instances rfl | exact (by kernel_rfl) | refine And.intro ?_ ?_))
        all_goals conv => whnf
        exact wk1 (by omega)
    · have hkk : k = l.length := by omega
      subst hkk
      repeat (any_goals (first
        | exact True.intro
        | (refine And.intro (fun _ => ?_) tf; conv => whnf)
        | (refine And.intro ft (fun _ => ?_); conv => whnf)
        | (refine And.intro (by kernel_rfl) ?_; conv => whnf)
        | (refine And.intro (by decide) ?_; conv => whnf)
        | (refine And.intro (fun _ => ?_) (fun h => absurd h (by decide)); conv => whnf)
        | (refine And.intro (fun h => absurd h (by decide)) (fun _ => ?_); conv => whnf)
        | (refine And.intro (fun h => absurd h (by simpa using hlt)) (fun _ => ?_); conv => whnf)
        | (refine And.intro (fun _ => ?_) (fun _ => ?_) <;> conv => whnf)))
      all_goals try (refine Or.inl ?_; conv => whnf)
      repeat (any_goals (first
        | exact True.intro
        | (refine And.intro (fun _ => ?_) tf; conv => whnf)
        | (refine And.intro ft (fun _ => ?_); conv => whnf)
        | (refine And.intro (by kernel_rfl) ?_; conv => whnf)
        | (refine And.intro (by decide) ?_; conv => whnf)
        | (refine And.intro (fun _ => ?_) (fun h => absurd h (by decide)); conv => whnf)
        | (refine And.intro (fun h => absurd h (by decide)) (fun _ => ?_); conv => whnf)
        | (refine And.intro (fun _ => ?_) (fun _ => ?_) <;> conv => whnf)))
      all_goals try (exfalso; simp only [decide_eq_true_eq, decide_eq_false_iff_not, Bool.not_eq_true', Bool.not_eq_false', Bool.not_eq_true, Bool.not_eq_false, beq_iff_eq, bne_iff_ne, beq_eq_false_iff_ne, bne_eq_false_iff_eq, ne_eq, Decidable.not_not] at *; first | omega | contradiction | (simp_all; done) | (simp_all; omega))
      rw [List.take_length] at hf
      have hr : setC s held z l = (⟨s.rho, s.least, held, z, l⟩, 0) := by unfold setC; rw [if_neg h0, if_pos hf]
      rw [hr]
      repeat (any_goals (first
        | exact True.intro
        | (refine And.intro (fun _ => ?_) tf; conv => whnf)
        | (refine And.intro ft (fun _ => ?_); conv => whnf)
        | (refine And.intro (by kernel_rfl) ?_; conv => whnf)
        | (refine And.intro (by decide) ?_; conv => whnf)
        | (refine And.intro (fun _ => ?_) (fun h => absurd h (by decide)); conv => whnf)
        | (refine And.intro (fun h => absurd h (by decide)) (fun _ => ?_); conv => whnf)
        | (refine And.intro (fun _ => ?_) (fun _ => ?_) <;> conv => whnf)
        | (refine ⟨_, _, lendON (clone_sat l (by simp at *; omega)) rfl (flat_map sR_flat _), ?_⟩; conv => whnf)))
      all_goals refine ⟨[], ?_⟩
      repeat (any_goals (first | exact True.intro | exact rfl | with_reducible_and_instances rfl | exact (by kernel_rfl) | refine And.intro ?_ ?_))
      all_goals conv => whnf
  · have hr : setC s held z l = (s, 10) := by unfold setC; rw [if_pos (by simp at *; omega)]
    rw [hr]
    all_goals refine ⟨[(1, 3)], ?_⟩
    repeat (any_goals (first | exact True.intro | exact rfl | with_reducible_and_instances rfl | exact (by kernel_rfl) | refine And.intro ?_ ?_))
    all_goals conv => whnf
end Go.Proofs.Ytgidaifoiljgoaa
/- That the layer's code is alive, by conditions. -/
namespace Go.Proofs.Ytgidaifoiljgoaa
set_option linter.unusedSimpArgs false
set_option linter.unusedVariables false
open Go.RowKit
set_option maxRecDepth 100000
def q1 : Smp := ⟨100, 7, 9, 110⟩
def q2 : Smp := ⟨300, 9, 9, 301⟩
def q3 : Smp := ⟨310, 19, 19, 311⟩
def t0 : CSt := ⟨0, 1, false, 0, []⟩
def t1 : CSt := ⟨0, 1, false, 1, [q1]⟩
def t2 : CSt := ⟨0, 1, true, 0, [q2]⟩
def t3 : CSt := ⟨0, 1, false, 1, [q2, q3]⟩
theorem c1 : addC t0 q1 = (t1, 0) := by kernel_rfl
theorem c2 : addC t1 q2 = (t2, 21) := by kernel_rfl
theorem c3 : addC t2 q3 = (t3, 0) := by kernel_rfl
theorem c4 : atC t0 9 = ((0, 0), 19) := by kernel_rfl
theorem c5 : atC t1 9 = ((101, 111), 0) := by kernel_rfl
theorem c6 : pointC t1 9 = (106, 0) := by kernel_rfl
theorem c7 : atR q1 9 0 = ((101, 111), 0) := by kernel_rfl
theorem c8 : setC t3 true 0 [q1] = (⟨0, 1, true, 0, [q1]⟩, 0) := by kernel_rfl
theorem alive_sat : Sat Try.prog 12 [] [] (bA true) [] := by
  have a1 := at_sat q1 9 0 (by omega) (by omega)
  have n1 := new_ok 0 1 rfl (by omega) (by omega)
  have a0 := clkAt_sat t0 9 (by decide)
  have d1 := add_sat t0 q1 (by decide) (by decide)
  have a2 := clkAt_sat t1 9 (by decide)
  have p1 := point_sat t1 9 (by decide)
  have l1 := clone1_sat t1 (by decide)
  have d2 := add_sat t1 q2 (by decide) (by decide)
  have m2 := samples_sat t2 (by decide)
  have d3 := add_sat t2 q3 (by decide) (by decide)
  have v1 := set_sat t3 true 0 [q1] (by decide)
  rw [c7] at a1
  rw [c4] at a0
  rw [c1] at d1
  rw [c5] at a2
  rw [c6] at p1
  rw [c2] at d2
  rw [c3] at d3
  rw [c8] at v1
  refine sat_of_vc (T := tiOf Try.prog) (E := E0) Try.func12 rfl rfl hE0 hm0 rfl ?_
  conv => whnf
  repeat (any_goals (first
    | exact True.intro
    | (refine Or.inl ?_; conv => whnf)
    | (refine And.intro (fun _ => ?_) tf; conv => whnf)
    | (refine And.intro ft (fun _ => ?_); conv => whnf)
    | (refine And.intro (by kernel_rfl) ?_; conv => whnf)
    | (refine And.intro (by decide) ?_; conv => whnf)
    | (refine And.intro (fun _ => ?_) (fun h => absurd h (by decide)); conv => whnf)
    | (refine And.intro (fun h => absurd h (by decide)) (fun _ => ?_); conv => whnf)
    | (refine ⟨0, rfl, by decide, ?_⟩; conv => whnf)
    | (refine ⟨_, rfl, ?_⟩; conv => whnf)
    | (refine And.intro (fun _ => ?_) (fun _ => ?_) <;> conv => whnf)
    | (refine ⟨_, _, a1.pu rfl rfl, ?_⟩; conv => whnf)
    | (refine ⟨_, _, n1.nw rfl, ?_⟩; conv => whnf)
    | (refine ⟨_, _, a0.at2 2 3 rfl rfl rfl rfl rfl, ?_⟩; conv => whnf)
    | (refine ⟨_, _, d1.at2 2 3 rfl rfl rfl rfl rfl, ?_⟩; conv => whnf)
    | (refine ⟨_, _, a2.at2 2 5 rfl rfl rfl rfl rfl, ?_⟩; conv => whnf)
    | (refine ⟨_, _, p1.at2 2 5 rfl rfl rfl rfl rfl, ?_⟩; conv => whnf)
    | (refine ⟨_, _, l1.at2 2 5 rfl rfl rfl rfl rfl, ?_⟩; conv => whnf)
    | (refine ⟨_, _, d2.at2 2 5 rfl rfl rfl rfl rfl, ?_⟩; conv => whnf)
    | (refine ⟨_, _, (held_sat t2).at2 2 9 rfl rfl rfl rfl rfl, ?_⟩; conv => whnf)
    | (refine ⟨_, _, m2.at2 2 9 rfl rfl rfl rfl rfl, ?_⟩; conv => whnf)
    | (refine ⟨_, _, d3.at2 2 9 rfl rfl rfl rfl rfl, ?_⟩; conv => whnf)
    | (refine ⟨_, _, (held_sat t3).at2 2 11 rfl rfl rfl rfl rfl, ?_⟩; conv => whnf)
    | (refine ⟨_, _, (streak_sat t3).at2 2 11 rfl rfl rfl rfl rfl, ?_⟩; conv => whnf)
    | (refine ⟨_, _, (right_sat q1).pu rfl rfl, ?_⟩; conv => whnf)
    | (refine ⟨_, _, (trip_sat q1).pu rfl rfl, ?_⟩; conv => whnf)
    | (refine ⟨_, _, (held_sat t1).at2 7 8 rfl rfl rfl rfl rfl, ?_⟩; conv => whnf)
    | (refine ⟨_, _, (streak_sat t1).at2 7 8 rfl rfl rfl rfl rfl, ?_⟩; conv => whnf)
    | (refine ⟨_, _, v1.at3 2 11 12 rfl rfl rfl rfl rfl rfl, ?_⟩; conv => whnf)
    | (refine ⟨_, _, (held_sat ⟨0, 1, true, 0, [q1]⟩).at2 2 13 rfl rfl rfl rfl rfl, ?_⟩; conv => whnf)
    | (refine ⟨_, _, eqP (by kernel_rfl), ?_⟩; conv => whnf)
    | (refine ⟨_, _, neP (by kernel_rfl), ?_⟩; conv => whnf)
    | (refine ⟨_, _, eqS (by kernel_rfl), ?_⟩; conv => whnf)))
  all_goals refine ⟨[], ?_⟩
  repeat (any_goals (first | exact True.intro | exact rfl | with_reducible_and_instances rfl | exact (by kernel_rfl) | refine And.intro ?_ ?_))
  all_goals conv => whnf
end Go.Proofs.Ytgidaifoiljgoaa
