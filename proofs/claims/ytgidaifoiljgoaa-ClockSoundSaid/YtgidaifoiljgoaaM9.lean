/- Parts Kc, Kd, Ke, Kf, Kp, Kg, Kh, Kq of the proof, put together. -/
import Derived.Test.YtgidaifoiljgoaaM8
/- clock.Clock.Add, by its conditions. -/
namespace Go.Proofs.Ytgidaifoiljgoaa
set_option linter.unusedSimpArgs false
set_option linter.unusedVariables false
open Go.RowKit
set_option maxRecDepth 100000
def gapOf (x : Smp) (stamp rho : Int) : Int × Int := if (atR x stamp rho).2 = 0 then (atR x stamp rho).1 else (1, 0)
def keepC (l : List Smp) : List Smp := if 8 < l.length then l.drop 1 else l
def addC (s : CSt) (x : Smp) : CSt × Nat :=
  if okS x = false then (s, 10) else
    let l := keepC (s.list ++ [x])
    if agreeB (l.map fun o => gapOf o x.sent s.rho) = true then
      let k := if s.streak < 9223372036854775807 then s.streak + 1 else s.streak
      (⟨s.rho, s.least, if s.least ≤ k then false else s.held, k, l⟩, 0)
    else (⟨s.rho, s.least, true, 0, if okG (gapOf x x.sent s.rho) = true then [x] else []⟩, 21)
theorem keep_pos (l : List Smp) (x : Smp) : 0 < (keepC (l ++ [x])).length := by unfold keepC; split <;> simp at * <;> omega
theorem keep_last (l : List Smp) (x : Smp) : (keepC (l ++ [x]))[(keepC (l ++ [x])).length - 1]? = some x := by
  unfold keepC
  split
  · rw [List.getElem?_drop, List.length_drop, List.length_append, List.length_singleton]
    simp at *
    rw [List.getElem?_append_right (by omega), show 1 + (l.length - 1) - l.length = 0 by omega]; rfl
  · rw [List.length_append, List.length_singleton, Nat.add_sub_cancel, List.getElem?_append_right (Nat.le_refl _), Nat.sub_self]; rfl
theorem delete1_sat (l : List Smp) (hn : 2 ≤ l.length) : Sat Try.prog 44 [.own 0, iA 0, iA 1] [.sl 4 (l.map sR)] (.own 1) [.dead, .sl 4 ((l.drop 1).map sR)] := by
  intro F ρ w vals En hv
  cases hv with | cons h0 hv =>
  cases h0 with | own h0 =>
  rename_i A n c
  cases hv with | cons h1 hv =>
  cases hv with | cons h2 hv =>
  cases hv with | nil =>
  obtain rfl := h1.v_out
  obtain rfl := h2.v_out
  obtain ⟨hh, e1, ⟨vs, how, hra, hs⟩, e3⟩ := En.rep 0 _ rfl rfl
  rw [h0] at e1; injection e1 with e1; subst e1
  obtain rfl := (flat_map sR_flat l).eq hra
  obtain ⟨g, off, cap, he, hlo, hlt, hnc, hcm, hroom, hx⟩ := how.open_ (by simp; omega)
  injection he with q1 q2 q3
  subst q1 q2 q3
  rw [List.length_map] at how ⊢
  refine (delete1_any g off l.length c 0 l w hn (by unfold maxLen at hcm; omega) how).mono ?_
  rintro e w' ⟨rfl, hw, hG⟩
  have hnone : hp [AObj.sl 4 (l.map sR)] 1 = none := rfl
  obtain ⟨S, K, E⟩ := En.swap (n := 1) (o' := .sl 4 ((l.drop 1).map sR)) (h' := .slice (some ⟨g, off, none⟩) (l.length - 1) c) (i := 0) rfl rfl h0 hnone hG (fun b hb => .inr hb) ⟨_, by rw [List.length_map, List.length_drop]; exact hw, (flat_map sR_flat (l.drop 1)).rds, fun r hr => by
    obtain ⟨x, _, rfl⟩ := List.mem_map.1 hr; rfl⟩
  have e : updF (updF (hp [AObj.sl 4 (l.map sR)]) 0 (some .dead)) 1 (some (.sl 4 ((l.drop 1).map sR))) = hp [.dead, .sl 4 ((l.drop 1).map sR)] := by
    funext i
    match i with
    | 0 => rfl
    | 1 => rfl
    | i + 2 => rfl
  rw [e] at S E
  exact ⟨_, rfl, F, _, S, K, E, .own (updF_same _ _ _)⟩
abbrev cH2 (s : CSt) : List AObj := [.cells [iA s.rho, iA s.least, bA s.held, iA s.streak, .own 2], .dead, .sl 4 (s.list.map sR)]
theorem add_sat (s : CSt) (x : Smp) (hn : s.list.length ≤ 8) (hs : -9223372036854775808 ≤ s.streak) : Sat Try.prog 15 [.ptr 0 0, sA x] (cH s) (iA (addC s x).2) (cH2 (addC s x).1) := by
  have hl : (s.list.map sR).length ≤ 8 := by simpa using hn
  refine sat_of_vc (T := tiOf Try.prog) (E := E0) Try.func15 rfl rfl hE0 hm0 rfl ?_
  conv => whnf
  repeat (any_goals (first
    | exact True.intro
    | (refine And.intro (fun _ => ?_) tf; conv => whnf)
    | (refine And.intro ft (fun _ => ?_); conv => whnf)
    | (refine And.intro (by kernel_rfl) ?_; conv => whnf)
    | (refine And.intro (by decide) ?_; conv => whnf)
    | (refine And.intro (fun _ => ?_) (fun h => absurd h (by decide)); conv => whnf)
    | (refine And.intro (fun h => absurd h (by decide)) (fun _ => ?_); conv => whnf)
    | (refine And.intro (fun _ => ?_) (fun _ => ?_) <;> conv => whnf)))
  all_goals try (refine Or.inl ?_; conv => whnf)
  repeat (any_goals (first
    | exact True.intro
    | (refine And.intro (fun _ => ?_) tf; conv => whnf)
    | (refine And.intro ft (fun _ => ?_); conv => whnf)
    | (refine And.intro (by kernel_rfl) ?_; conv => whnf)
    | (refine And.intro (by decide) ?_; conv => whnf)
    | (refine And.intro (fun _ => ?_) (fun h => absurd h (by decide)); conv => whnf)
    | (refine And.intro (fun h => absurd h (by decide)) (fun _ => ?_); conv => whnf)
    | (refine And.intro (fun _ => ?_) (fun _ => ?_) <;> conv => whnf)
    | (refine ⟨_, _, (right_sat _).pu rfl rfl, ?_⟩; conv => whnf)
    | (refine ⟨_, _, ap 4 32 (by kernel_rfl) rfl rfl (by simp; omega), ?_⟩; conv => whnf)))
  · have h0 : okS x = false := (by (try simp only [decide_eq_true_eq, decide_eq_false_iff_not, Bool.not_eq_true', Bool.not_eq_false', Bool.not_eq_true, Bool.not_eq_false, beq_iff_eq, bne_iff_ne, beq_eq_false_iff_ne, bne_eq_false_iff_eq, ne_eq, Decidable.not_not, Int.natCast_eq_zero] at *); first | omega | assumption | (simp_all; done) | (simp_all; omega))
    have hr : addC s x = (s, 10) := by unfold addC; rw [if_pos h0]
    rw [hr]
    all_goals refine ⟨[(1, 3), (2, 3)], ?_⟩
    repeat (any_goals (first | exact True.intro | exact rfl | with_reducible_and_instances rfl | exact (by kernel_rfl) | refine And.intro ?_ ?_))
    all_goals conv => whnf
  have h0 : okS x = true := (by (try simp only [decide_eq_true_eq, decide_eq_false_iff_not, Bool.not_eq_true', Bool.not_eq_false', Bool.not_eq_true, Bool.not_eq_false, beq_iff_eq, bne_iff_ne, beq_eq_false_iff_ne, bne_eq_false_iff_eq, ne_eq, Decidable.not_not, Int.natCast_eq_zero] at *); first | omega | assumption | (simp_all; done) | (simp_all; omega))
  have hT : 0 ≤ x.sent ∧ x.sent ≤ 4611686018427387903 := by simp [okS, isT] at h0; omega
  have hll : (keepC (s.list ++ [x])).length ≤ 8 := by unfold keepC; split <;> simp at * <;> omega
  refine Or.inr ⟨Unit, fun _ => True, fun _ => ([(0, .ptr 0 0), (3, .ptr 2 0)], [.cells [iA s.rho, iA s.least, bA s.held, iA s.streak, .own 3], .dead, .cells [iA x.asked, iA x.got, iA x.sent, iA x.came], .sl 4 ((keepC (s.list ++ [x])).map sR)]), ?_, fun _ _ => ?_⟩
  · conv => whnf
    repeat (any_goals (first
      | exact True.intro
      | (refine And.intro (fun _ => ?_) tf; conv => whnf)
      | (refine And.intro ft (fun _ => ?_); conv => whnf)
      | (refine And.intro (by kernel_rfl) ?_; conv => whnf)
      | (refine And.intro (by decide) ?_; conv => whnf)
      | (refine And.intro (fun _ => ?_) (fun h => absurd h (by decide)); conv => whnf)
      | (refine And.intro (fun h => absurd h (by decide)) (fun _ => ?_); conv => whnf)
      | (refine And.intro (fun _ => ?_) (fun _ => ?_) <;> conv => whnf)
      | (refine ⟨_, _, (delete1_sat (s.list ++ [x]) (by (try simp only [decide_eq_true_eq, decide_eq_false_iff_not, Bool.not_eq_true', Bool.not_eq_false', Bool.not_eq_true, Bool.not_eq_false, beq_iff_eq, bne_iff_ne, beq_eq_false_iff_ne, bne_eq_false_iff_eq, ne_eq, Decidable.not_not, Int.natCast_eq_zero] at *); first | omega | assumption | (simp_all; done) | (simp_all; omega))).at1 4 rfl rfl (by rw [List.map_append]; rfl), ?_⟩; conv => whnf)))
    · have hk : keepC (s.list ++ [x]) = (s.list ++ [x]).drop 1 := by unfold keepC; rw [if_pos (by simp at *; omega)]
      refine ⟨(), trivial, ?_⟩
      rw [hk]
      all_goals refine ⟨[(3, 5)], ?_⟩
      repeat (any_goals (first | exact True.intro | exact rfl | with_reducible_and_instances rfl | exact (by kernel_rfl) | refine And.intro ?_ ?_))
      all_goals conv => whnf
    · have hk : keepC (s.list ++ [x]) = s.list ++ [x] := by unfold keepC; rw [if_neg (by simp at *; omega)]
      refine ⟨(), trivial, ?_⟩
      rw [hk, List.map_append]
      all_goals refine ⟨[(3, 4)], ?_⟩
      repeat (any_goals (first | exact True.intro | exact rfl | with_reducible_and_instances rfl | exact (by kernel_rfl) | refine And.intro ?_ ?_))
      all_goals conv => whnf
  · generalize hkl : keepC (s.list ++ [x]) = l at *
    have hl' : (l.map sR).length ≤ 8 := by simpa using hll
    conv => whnf
    repeat (any_goals (first
      | exact True.intro
      | (refine And.intro (fun _ => ?_) tf; conv => whnf)
      | (refine And.intro ft (fun _ => ?_); conv => whnf)
      | (refine And.intro (by kernel_rfl) ?_; conv => whnf)
      | (refine And.intro (by decide) ?_; conv => whnf)
      | (refine And.intro (fun _ => ?_) (fun h => absurd h (by decide)); conv => whnf)
      | (refine And.intro (fun h => absurd h (by decide)) (fun _ => ?_); conv => whnf)
      | (refine And.intro (fun _ => ?_) (fun _ => ?_) <;> conv => whnf)
      | (refine ⟨_, _, mk0 2 16 (by kernel_rfl) (by omega) (by unfold maxLen; omega), ?_⟩; conv => whnf)))
    all_goals try (refine Or.inl ?_; conv => whnf)
    repeat (any_goals (first
      | exact True.intro
      | (refine And.intro (fun _ => ?_) tf; conv => whnf)
      | (refine And.intro ft (fun _ => ?_); conv => whnf)
      | (refine And.intro (by kernel_rfl) ?_; conv => whnf)
      | (refine And.intro (by decide) ?_; conv => whnf)
      | (refine And.intro (fun _ => ?_) (fun h => absurd h (by decide)); conv => whnf)
      | (refine And.intro (fun h => absurd h (by decide)) (fun _ => ?_); conv => whnf)
      | (refine And.intro (fun _ => ?_) (fun _ => ?_) <;> conv => whnf)))
    refine ⟨Nat, fun k => k ≤ l.length, fun k => ([(48, iA k), (47, iA (l.map sR).length), (46, .own 3), (5, .own 4), (0, .ptr 0 0), (3, .ptr 2 0)], [.cells [iA s.rho, iA s.least, bA s.held, iA s.streak, .own 3], .dead, .cells [iA x.asked, iA x.got, iA x.sent, iA x.came], .sl 4 (l.map sR), .sl 2 (((l.take k).map fun o => gapOf o x.sent s.rho).map gR)]), fun k => l.length - k, ⟨0, Nat.zero_le _, ?_⟩, ?_⟩
    · all_goals refine ⟨[], ?_⟩
      repeat (any_goals (first | exact True.intro | exact rfl | with_reducible_and_instances rfl | exact (by kernel_rfl) | refine And.intro ?_ ?_))
      all_goals conv => whnf
    rintro k hk
    by_cases hlt : k < l.length
    · conv => whnf
      have hx : l[k]? = some l[k] := List.getElem?_eq_getElem hlt
      repeat (any_goals (first
        | exact True.intro
        | (refine And.intro (fun _ => ?_) tf; conv => whnf)
        | (refine And.intro ft (fun _ => ?_); conv => whnf)
        | (refine And.intro (by kernel_rfl) ?_; conv => whnf)
        | (refine And.intro (by decide) ?_; conv => whnf)
        | (refine And.intro (fun _ => ?_) (fun h => absurd h (by decide)); conv => whnf)
        | (refine And.intro (fun h => absurd h (by decide)) (fun _ => ?_); conv => whnf)
        | (refine And.intro (fun _ => ?_) (fun h => absurd h (by simpa using hlt)); conv => whnf)
        | (refine And.intro (fun _ => ?_) (fun _ => ?_) <;> conv => whnf)))
      all_goals try (refine Or.inl ?_; conv => whnf)
      repeat (any_goals (first
        | exact True.intro
        | (refine And.intro (fun _ => ?_) tf; conv => whnf)
        | (refine And.intro ft (fun _ => ?_); conv => whnf)
        | (refine And.intro (by kernel_rfl) ?_; conv => whnf)
        | (refine And.intro (by decide) ?_; conv => whnf)
        | (refine And.intro (fun _ => ?_) (fun h => absurd h (by decide)); conv => whnf)
        | (refine And.intro (fun h => absurd h (by decide)) (fun _ => ?_); conv => whnf)
        | (refine And.intro (fun _ => ?_) (fun _ => ?_) <;> conv => whnf)))
      all_goals try (exfalso; simp only [decide_eq_true_eq, decide_eq_false_iff_not, Bool.not_eq_true', Bool.not_eq_false', Bool.not_eq_true, Bool.not_eq_false, beq_iff_eq, bne_iff_ne, beq_eq_false_iff_ne, bne_eq_false_iff_eq, ne_eq, Decidable.not_not] at *; first | omega | contradiction | (simp_all; done) | (simp_all; omega))
      all_goals try (refine Or.inl ?_; conv => whnf)
      repeat (any_goals (first
        | exact True.intro
        | (refine And.intro (fun _ => ?_) tf; conv => whnf)
        | (refine And.intro ft (fun _ => ?_); conv => whnf)
        | (refine And.intro (by kernel_rfl) ?_; conv => whnf)
        | (refine And.intro (by decide) ?_; conv => whnf)
        | (refine And.intro (fun _ => ?_) (fun h => absurd h (by decide)); conv => whnf)
        | (refine And.intro (fun h => absurd h (by decide)) (fun _ => ?_); conv => whnf)
        | (refine ⟨_, rfl, by simpa using hlt, ?_⟩; conv => whnf)
        | (refine ⟨_, map_get hx, ?_⟩; conv => whnf)
        | (refine And.intro (fun _ => ?_) (fun _ => ?_) <;> conv => whnf)
        | (refine ⟨_, _, (at_sat _ _ _ (by omega) (by omega)).pu rfl rfl, ?_⟩; conv => whnf)))
      refine Or.inr ⟨Unit, fun _ => True, fun _ => ([(48, iA k), (47, iA (l.map sR).length), (46, .own 3), (5, .own 4), (8, .ptr 6 0), (0, .ptr 0 0), (3, .ptr 2 0)], [.cells [iA s.rho, iA s.least, bA s.held, iA s.streak, .own 3], .dead, .cells [iA x.asked, iA x.got, iA x.sent, iA x.came], .sl 4 (l.map sR), .sl 2 (((l.take k).map fun o => gapOf o x.sent s.rho).map gR), .dead, .cells [iA (gapOf l[k] x.sent s.rho).1, iA (gapOf l[k] x.sent s.rho).2]]), ?_, fun _ _ => ?_⟩
      · conv => whnf
        repeat (any_goals (first
          | exact True.intro
          | (refine And.intro (fun _ => ?_) tf; conv => whnf)
          | (refine And.intro ft (fun _ => ?_); conv => whnf)
          | (refine And.intro (by kernel_rfl) ?_; conv => whnf)
          | (refine And.intro (by decide) ?_; conv => whnf)
          | (refine And.intro (fun _ => ?_) (fun h => absurd h (by decide)); conv => whnf)
          | (refine And.intro (fun h => absurd h (by decide)) (fun _ => ?_); conv => whnf)
          | (refine And.intro (fun _ => ?_) (fun _ => ?_) <;> conv => whnf)))
        · have hg : gapOf l[k] x.sent s.rho = (1, 0) := by unfold gapOf; rw [if_neg (by (try simp only [decide_eq_true_eq, decide_eq_false_iff_not, Bool.not_eq_true', Bool.not_eq_false', Bool.not_eq_true, Bool.not_eq_false, beq_iff_eq, bne_iff_ne, beq_eq_false_iff_ne, bne_eq_false_iff_eq, ne_eq, Decidable.not_not, Int.natCast_eq_zero] at *); first | omega | assumption | (simp_all; done) | (simp_all; omega))]
          refine ⟨(), trivial, ?_⟩
          rw [hg]
          all_goals refine ⟨[], ?_⟩
          repeat (any_goals (first | exact True.intro | exact rfl | with_reducible_and_instances rfl | exact (by kernel_rfl) | refine And.intro ?_ ?_))
          all_goals conv => whnf
        · have hg : gapOf l[k] x.sent s.rho = (atR l[k] x.sent s.rho).1 := by unfold gapOf; rw [if_pos (by (try simp only [decide_eq_true_eq, decide_eq_false_iff_not, Bool.not_eq_true', Bool.not_eq_false', Bool.not_eq_true, Bool.not_eq_false, beq_iff_eq, bne_iff_ne, beq_eq_false_iff_ne, bne_eq_false_iff_eq, ne_eq, Decidable.not_not, Int.natCast_eq_zero] at *); first | omega | assumption | (simp_all; done) | (simp_all; omega))]
          refine ⟨(), trivial, ?_⟩
          rw [hg]
          all_goals refine ⟨[], ?_⟩
          repeat (any_goals (first | exact True.intro | exact rfl | with_reducible_and_instances rfl | exact (by kernel_rfl) | refine And.intro ?_ ?_))
          all_goals conv => whnf
      · conv => whnf
        repeat (any_goals (first
          | exact True.intro
          | (refine And.intro (fun _ => ?_) tf; conv => whnf)
          | (refine And.intro ft (fun _ => ?_); conv => whnf)
          | (refine And.intro (by kernel_rfl) ?_; conv => whnf)
          | (refine And.intro (by decide) ?_; conv => whnf)
          | (refine And.intro (fun _ => ?_) (fun h => absurd h (by decide)); conv => whnf)
          | (refine And.intro (fun h => absurd h (by decide)) (fun _ => ?_); conv => whnf)
          | (refine And.intro (fun _ => ?_) (fun _ => ?_) <;> conv => whnf)
          | (refine ⟨_, _, ap 2 16 (by kernel_rfl) rfl rfl (by simp; omega), ?_⟩; conv => whnf)))
        refine ⟨k + 1, hlt, show l.length - (k + 1) < l.length - k by omega, ?_⟩
        all_goals refine ⟨[(4, 8)], ?_⟩
        repeat (any_goals (first | exact True.intro | exact rfl | with_reducible_and_instances rfl | exact (by kernel_rfl) | refine And.intro ?_ ?_))
        all_goals conv => whnf
        · exact wk1 (by omega)
        · rw [map_take_succ hx, List.map_append]; rfl
    · have hkk : k = l.length := by omega
      subst hkk
      conv => whnf
      repeat (any_goals (first
        | exact True.intro
        | (refine And.intro (fun _ => ?_) tf; conv => whnf)
        | (refine And.intro ft (fun _ => ?_); conv => whnf)
        | (refine And.intro (by kernel_rfl) ?_; conv => whnf)
        | (refine And.intro (by decide) ?_; conv => whnf)
        | (refine And.intro (fun _ => ?_) (fun h => absurd h (by decide)); conv => whnf)
        | (refine And.intro (fun h => absurd h (by decide)) (fun _ => ?_); conv => whnf)
        | (refine And.intro (fun h => absurd h (by simpa using hlt)) (fun _ => ?_); conv => whnf)
        | (refine And.intro (fun _ => ?_) (fun _ => ?_) <;> conv => whnf)))
      all_goals try (refine Or.inl ?_; conv => whnf)
      repeat (any_goals (first
        | exact True.intro
        | (refine And.intro (fun _ => ?_) tf; conv => whnf)
        | (refine And.intro ft (fun _ => ?_); conv => whnf)
        | (refine And.intro (by kernel_rfl) ?_; conv => whnf)
        | (refine And.intro (by decide) ?_; conv => whnf)
        | (refine And.intro (fun _ => ?_) (fun h => absurd h (by decide)); conv => whnf)
        | (refine And.intro (fun h => absurd h (by decide)) (fun _ => ?_); conv => whnf)
        | (refine And.intro (fun _ => ?_) (fun _ => ?_) <;> conv => whnf)))
      all_goals try (exfalso; simp only [decide_eq_true_eq, decide_eq_false_iff_not, Bool.not_eq_true', Bool.not_eq_false', Bool.not_eq_true, Bool.not_eq_false, beq_iff_eq, bne_iff_ne, beq_eq_false_iff_ne, bne_eq_false_iff_eq, ne_eq, Decidable.not_not] at *; first | omega | contradiction | (simp_all; done) | (simp_all; omega))
      all_goals try (refine Or.inl ?_; conv => whnf)
      repeat (any_goals (first
        | exact True.intro
        | (refine And.intro (fun _ => ?_) tf; conv => whnf)
        | (refine And.intro ft (fun _ => ?_); conv => whnf)
        | (refine And.intro (by kernel_rfl) ?_; conv => whnf)
        | (refine And.intro (by decide) ?_; conv => whnf)
        | (refine And.intro (fun _ => ?_) (fun h => absurd h (by decide)); conv => whnf)
        | (refine And.intro (fun h => absurd h (by decide)) (fun _ => ?_); conv => whnf)
        | (refine And.intro (fun _ => ?_) (fun _ => ?_) <;> conv => whnf)
        | (refine ⟨_, _, lendO (agree_sat _ (by simp; omega)) rfl rfl, ?_⟩; conv => whnf)))
      · have hag : agreeB (l.map fun o => gapOf o x.sent s.rho) = true := by rename_i h; rw [List.take_length] at h; exact h
        have hr : addC s x = (⟨s.rho, s.least, if s.least ≤ (if s.streak < 9223372036854775807 then s.streak + 1 else s.streak) then false else s.held, if s.streak < 9223372036854775807 then s.streak + 1 else s.streak, l⟩, 0) := by
          unfold addC
          rw [if_neg (by simp [h0]), hkl, if_pos hag]
        rw [hr]
        by_cases c1 : s.streak < 9223372036854775807
        · have hw : IntKind.i64.wrap (s.streak + 1) = s.streak + 1 := wi (by omega) (by omega)
          rw [if_pos c1]
          by_cases c2 : s.least ≤ s.streak + 1
          · rw [if_pos c2]
            all_goals try (refine Or.inl ?_; conv => whnf)
            repeat (any_goals (first
              | exact True.intro
              | (refine Or.inl ?_; conv => whnf)
              | (refine And.intro (fun _ => ?_) tf; conv => whnf)
              | (refine And.intro ft (fun _ => ?_); conv => whnf)
              | (refine And.intro (by kernel_rfl) ?_; conv => whnf)
              | (refine And.intro (by decide) ?_; conv => whnf)
              | (refine And.intro (fun _ => ?_) (fun h => absurd h (by decide)); conv => whnf)
              | (refine And.intro (fun h => absurd h (by decide)) (fun _ => ?_); conv => whnf)
              | (refine And.intro (fun _ => ?_) (fun _ => ?_) <;> conv => whnf)))
            all_goals try (exfalso; simp only [decide_eq_true_eq, decide_eq_false_iff_not, Bool.not_eq_true', Bool.not_eq_false', Bool.not_eq_true, Bool.not_eq_false, beq_iff_eq, bne_iff_ne, beq_eq_false_iff_ne, bne_eq_false_iff_eq, ne_eq, Decidable.not_not] at *; first | omega | contradiction | (simp_all; done) | (simp_all; omega))
            all_goals refine ⟨[(2, 3)], ?_⟩
            repeat (any_goals (first | exact True.intro | exact rfl | with_reducible_and_instances rfl | exact (by kernel_rfl) | refine And.intro ?_ ?_))
            all_goals conv => whnf
            rw [hw]
          · rw [if_neg c2]
            all_goals try (refine Or.inl ?_; conv => whnf)
            repeat (any_goals (first
              | exact True.intro
              | (refine Or.inl ?_; conv => whnf)
              | (refine And.intro (fun _ => ?_) tf; conv => whnf)
              | (refine And.intro ft (fun _ => ?_); conv => whnf)
              | (refine And.intro (by kernel_rfl) ?_; conv => whnf)
              | (refine And.intro (by decide) ?_; conv => whnf)
              | (refine And.intro (fun _ => ?_) (fun h => absurd h (by decide)); conv => whnf)
              | (refine And.intro (fun h => absurd h (by decide)) (fun _ => ?_); conv => whnf)
              | (refine And.intro (fun _ => ?_) (fun _ => ?_) <;> conv => whnf)))
            all_goals try (exfalso; simp only [decide_eq_true_eq, decide_eq_false_iff_not, Bool.not_eq_true', Bool.not_eq_false', Bool.not_eq_true, Bool.not_eq_false, beq_iff_eq, bne_iff_ne, beq_eq_false_iff_ne, bne_eq_false_iff_eq, ne_eq, Decidable.not_not] at *; first | omega | contradiction | (simp_all; done) | (simp_all; omega))
            all_goals refine ⟨[(2, 3)], ?_⟩
            repeat (any_goals (first | exact True.intro | exact rfl | with_reducible_and_instances rfl | exact (by kernel_rfl) | refine And.intro ?_ ?_))
            all_goals conv => whnf
            rw [hw]
        · rw [if_neg c1]
          by_cases c2 : s.least ≤ s.streak
          · rw [if_pos c2]
            all_goals try (refine Or.inl ?_; conv => whnf)
            repeat (any_goals (first
              | exact True.intro
              | (refine Or.inl ?_; conv => whnf)
              | (refine And.intro (fun _ => ?_) tf; conv => whnf)
              | (refine And.intro ft (fun _ => ?_); conv => whnf)
              | (refine And.intro (by kernel_rfl) ?_; conv => whnf)
              | (refine And.intro (by decide) ?_; conv => whnf)
              | (refine And.intro (fun _ => ?_) (fun h => absurd h (by decide)); conv => whnf)
              | (refine And.intro (fun h => absurd h (by decide)) (fun _ => ?_); conv => whnf)
              | (refine And.intro (fun _ => ?_) (fun _ => ?_) <;> conv => whnf)))
            all_goals try (exfalso; simp only [decide_eq_true_eq, decide_eq_false_iff_not, Bool.not_eq_true', Bool.not_eq_false', Bool.not_eq_true, Bool.not_eq_false, beq_iff_eq, bne_iff_ne, beq_eq_false_iff_ne, bne_eq_false_iff_eq, ne_eq, Decidable.not_not] at *; first | omega | contradiction | (simp_all; done) | (simp_all; omega))
            all_goals refine ⟨[(2, 3)], ?_⟩
            repeat (any_goals (first | exact True.intro | exact rfl | with_reducible_and_instances rfl | exact (by kernel_rfl) | refine And.intro ?_ ?_))
            all_goals conv => whnf
          · rw [if_neg c2]
            all_goals try (refine Or.inl ?_; conv => whnf)
            repeat (any_goals (first
              | exact True.intro
              | (refine Or.inl ?_; conv => whnf)
              | (refine And.intro (fun _ => ?_) tf; conv => whnf)
              | (refine And.intro ft (fun _ => ?_); conv => whnf)
              | (refine And.intro (by kernel_rfl) ?_; conv => whnf)
              | (refine And.intro (by decide) ?_; conv => whnf)
              | (refine And.intro (fun _ => ?_) (fun h => absurd h (by decide)); conv => whnf)
              | (refine And.intro (fun h => absurd h (by decide)) (fun _ => ?_); conv => whnf)
              | (refine And.intro (fun _ => ?_) (fun _ => ?_) <;> conv => whnf)))
            all_goals try (exfalso; simp only [decide_eq_true_eq, decide_eq_false_iff_not, Bool.not_eq_true', Bool.not_eq_false', Bool.not_eq_true, Bool.not_eq_false, beq_iff_eq, bne_iff_ne, beq_eq_false_iff_ne, bne_eq_false_iff_eq, ne_eq, Decidable.not_not] at *; first | omega | contradiction | (simp_all; done) | (simp_all; omega))
            all_goals refine ⟨[(2, 3)], ?_⟩
            repeat (any_goals (first | exact True.intro | exact rfl | with_reducible_and_instances rfl | exact (by kernel_rfl) | refine And.intro ?_ ?_))
            all_goals conv => whnf
      · have hag : ¬ agreeB (l.map fun o => gapOf o x.sent s.rho) = true := by rename_i h; rw [List.take_length] at h; simp [h]
        have hr : addC s x = (⟨s.rho, s.least, true, 0, if okG (gapOf x x.sent s.rho) = true then [x] else []⟩, 21) := by
          unfold addC
          rw [if_neg (by simp [h0]), hkl, if_neg hag]
        rw [hr]
        have hlast : (((l.take l.length).map fun o => gapOf o x.sent s.rho).map gR)[l.length - 1]? = some (gR (gapOf x x.sent s.rho)) := by
          rw [List.take_length]
          refine map_get (map_get ?_)
          subst hkl
          exact keep_last _ _
        have hpos : 0 < l.length := by subst hkl; exact keep_pos _ _
        have hw : IntKind.i64.wrap (((((l.take l.length).map fun o => gapOf o x.sent s.rho).map gR).length : Int) - 1) = ((l.length - 1 : Nat) : Int) := by
          rw [List.length_map, List.length_map, List.take_length, wi (by omega) (by omega)]; omega
        by_cases hg : okG (gapOf x x.sent s.rho) = true
        · rw [if_pos hg]
          all_goals try (refine Or.inl ?_; conv => whnf)
          repeat (any_goals (first
            | exact True.intro
            | (refine And.intro (fun _ => ?_) tf; conv => whnf)
            | (refine And.intro ft (fun _ => ?_); conv => whnf)
            | (refine And.intro (by kernel_rfl) ?_; conv => whnf)
            | (refine And.intro (by decide) ?_; conv => whnf)
            | (refine And.intro (fun _ => ?_) (fun h => absurd h (by decide)); conv => whnf)
            | (refine And.intro (fun h => absurd h (by decide)) (fun _ => ?_); conv => whnf)
            | (refine ⟨l.length - 1, hw, by simp; omega, ?_⟩; conv => whnf)
            | (refine ⟨_, hlast, ?_⟩; conv => whnf)
            | (refine And.intro (fun _ => ?_) (fun _ => ?_) <;> conv => whnf)
            | (refine ⟨_, _, (gapRight_sat _).pu rfl rfl, ?_⟩; conv => whnf)))
          all_goals try (refine Or.inl ?_; conv => whnf)
          repeat (any_goals (first
            | exact True.intro
            | (refine And.intro (fun _ => ?_) tf; conv => whnf)
            | (refine And.intro ft (fun _ => ?_); conv => whnf)
            | (refine And.intro (by kernel_rfl) ?_; conv => whnf)
            | (refine And.intro (by decide) ?_; conv => whnf)
            | (refine And.intro (fun _ => ?_) (fun h => absurd h (by decide)); conv => whnf)
            | (refine And.intro (fun h => absurd h (by decide)) (fun _ => ?_); conv => whnf)
            | (refine And.intro (fun _ => ?_) (fun _ => ?_) <;> conv => whnf)))
          all_goals try (exfalso; simp only [decide_eq_true_eq, decide_eq_false_iff_not, Bool.not_eq_true', Bool.not_eq_false', Bool.not_eq_true, Bool.not_eq_false, beq_iff_eq, bne_iff_ne, beq_eq_false_iff_ne, bne_eq_false_iff_eq, ne_eq, Decidable.not_not] at *; first | omega | contradiction | (simp_all; done) | (simp_all; omega))
          all_goals refine ⟨[(2, 5)], ?_⟩
          repeat (any_goals (first | exact True.intro | exact rfl | with_reducible_and_instances rfl | exact (by kernel_rfl) | refine And.intro ?_ ?_))
          all_goals conv => whnf
        · rw [if_neg hg]
          all_goals try (refine Or.inl ?_; conv => whnf)
          repeat (any_goals (first
            | exact True.intro
            | (refine And.intro (fun _ => ?_) tf; conv => whnf)
            | (refine And.intro ft (fun _ => ?_); conv => whnf)
            | (refine And.intro (by kernel_rfl) ?_; conv => whnf)
            | (refine And.intro (by decide) ?_; conv => whnf)
            | (refine And.intro (fun _ => ?_) (fun h => absurd h (by decide)); conv => whnf)
            | (refine And.intro (fun h => absurd h (by decide)) (fun _ => ?_); conv => whnf)
            | (refine ⟨l.length - 1, hw, by simp; omega, ?_⟩; conv => whnf)
            | (refine ⟨_, hlast, ?_⟩; conv => whnf)
            | (refine And.intro (fun _ => ?_) (fun _ => ?_) <;> conv => whnf)
            | (refine ⟨_, _, (gapRight_sat _).pu rfl rfl, ?_⟩; conv => whnf)))
          all_goals try (refine Or.inl ?_; conv => whnf)
          repeat (any_goals (first
            | exact True.intro
            | (refine And.intro (fun _ => ?_) tf; conv => whnf)
            | (refine And.intro ft (fun _ => ?_); conv => whnf)
            | (refine And.intro (by kernel_rfl) ?_; conv => whnf)
            | (refine And.intro (by decide) ?_; conv => whnf)
            | (refine And.intro (fun _ => ?_) (fun h => absurd h (by decide)); conv => whnf)
            | (refine And.intro (fun h => absurd h (by decide)) (fun _ => ?_); conv => whnf)
            | (refine And.intro (fun _ => ?_) (fun _ => ?_) <;> conv => whnf)))
          all_goals try (exfalso; simp only [decide_eq_true_eq, decide_eq_false_iff_not, Bool.not_eq_true', Bool.not_eq_false', Bool.not_eq_true, Bool.not_eq_false, beq_iff_eq, bne_iff_ne, beq_eq_false_iff_ne, bne_eq_false_iff_eq, ne_eq, Decidable.not_not] at *; first | omega | contradiction | (simp_all; done) | (simp_all; omega))
          all_goals refine ⟨[(2, 2)], ?_⟩
          repeat (any_goals (first | exact True.intro | exact rfl | with_reducible_and_instances rfl | exact (by kernel_rfl) | refine And.intro ?_ ?_))
          all_goals conv => whnf
end Go.Proofs.Ytgidaifoiljgoaa
/- clock.Clock: Samples, Clone, Point; a sample's Trip; gap's Mid, Within, Has, by their conditions. -/
namespace Go.Proofs.Ytgidaifoiljgoaa
set_option linter.unusedSimpArgs false
set_option linter.unusedVariables false
open Go.RowKit
set_option maxRecDepth 100000
set_option maxHeartbeats 1000000 in
theorem clone0_any (A : Option Addr) (c : Nat) (w : World) :
    Calls Try.prog 61 #[.slice A 0 c] w fun e w' => ∃ v, e = .returned v ∧ Ow w' w.heap.size 33 4 v 0 [] ∧ Below w.heap.size w w' ∧ ∀ k, blkOf v = some k → k < w'.heap.size := by
  obtain ⟨i0, hi0, hz0, hz1, hz2⟩ := info_parts infoSz
  cases A with
  | none =>
    have hq := Lib.run_eql_slice_nil (P := Try.prog) (w := w) 22
    go_enter Try.func61, Try.ntmps61
    go_wp2_with fail
    go_ret
    exact ⟨_, rfl, Ow.nil _ _ _ _, Below.refl _ _, fun k hk => by cases hk⟩
  | some a =>
    have hq := Lib.run_eql_slice_nil (P := Try.prog) (w := w) 22
    have hlit := hide <| Ow.lit w #[] 0 (lo := w.heap.size) (size := 4) (e := 33) (Nat.le_refl _) (by simp [maxLen]) rfl
    have hap := hide <| fun w1 ty hown => run_append_zero (P := Try.prog) (w := w1) (ty := ty) (t := 22) (A := some a) (c := c) (lo := w.heap.size) (size := 4) (ee := 33) (v := .slice (some ⟨w.heap.size, 0, none⟩) 0 0) (m' := 0) (xs := []) Try.underlying22 hi0 hown
    go_enter Try.func61, Try.ntmps61
    go_wp2_with (at_builtin; refine wpList_exec rfl _ (exec_append _ _ _ rfl _ _ rfl rfl (hap.out _ _ hlit.out)) ?_)
    go_ret
    refine ⟨_, rfl, hlit.out, (Below.refl _ _).alloc (Nat.le_refl _) _, fun k hk => ?_⟩
    injection hk with hk
    subst hk
    show w.heap.size < (w.heap.push _).size
    rw [Array.size_push]; exact Nat.lt_succ_self _
theorem clone_sat (l : List Smp) (hn : l.length ≤ 1000) : Sat Try.prog 61 [.d (.sl 4 (l.map sR))] [] (.own 0) [.sl 4 (l.map sR)] := by
  intro F ρ w vals En hv
  obtain ⟨v, rfl, hv'⟩ := hv.one_out
  cases hv' with | d hv =>
    obtain ⟨A, c, rfl, h1, h2, hr⟩ := hv.sl_rd En.fb (flat_map sR_flat l)
    rw [List.length_map] at hr ⊢
    have main : Calls Try.prog 61 #[.slice A l.length c] w fun e w' => ∃ v, e = .returned v ∧ Ow w' w.heap.size 33 4 v l.length (scells l) ∧ Below w.heap.size w w' ∧ ∀ k, blkOf v = some k → k < w'.heap.size := by
      rcases Nat.eq_zero_or_pos l.length with h0 | h0
      · have : l = [] := List.eq_nil_of_length_eq_zero h0
        subst this
        exact clone0_any A c w
      · refine (cloneS_any A _ c l w hr hn).mono ?_
        rintro e w' ⟨v, rfl, how, hb⟩
        refine ⟨v, rfl, how, hb, fun k hk => ?_⟩
        obtain ⟨g, off, cap, rfl, _, hg, _⟩ := how.open_ h0
        injection hk with hk
        subst hk
        exact hg
    refine main.mono ?_
    rintro e w' ⟨v, rfl, how, hb, hlt⟩
    have hG : w.grownBy w' none := ⟨hb.os, hb.tape, hb.output, hb.size, fun b h _ => hb.block b h⟩
    have hnone : hp ([] : List AObj) 0 = none := rfl
    obtain ⟨A', c', he, g1, g2, hrd⟩ := how.form
    subst he
    have how0 : Ow w' 0 0 4 (.slice A' l.length c') l.length (scells l) := ⟨how.1, by
      rcases how.2 with h | ⟨a, h, _, h'⟩ | ⟨g, off, cap, h, _, h'⟩
      · exact .inl h
      · exact .inr (.inl ⟨a, h, Nat.zero_le _, h'⟩)
      · exact .inr (.inr ⟨g, off, cap, h, Nat.zero_le _, h'⟩)⟩
    obtain ⟨S, K, E⟩ := En.new (n := 0) (o' := .sl 4 (l.map sR)) (h := .slice A' l.length c') hnone hG (fun b hb' => ⟨how.lt b (by rw [← blk_own rfl]; exact hb'), hlt b hb'⟩)
      ⟨_, by rw [List.length_map]; exact how0, (flat_map sR_flat l).rds, fun r hr => by obtain ⟨x, _, rfl⟩ := List.mem_map.1 hr; rfl⟩
    have e : updF (hp []) 0 (some (.sl 4 (l.map sR))) = hp [.sl 4 (l.map sR)] := by
      funext i
      match i with
      | 0 => rfl
      | i + 1 => rfl
    rw [e] at S E
    exact ⟨_, rfl, F, _, S, K, E, .own (updF_same _ _ _)⟩
theorem samples_sat (s : CSt) (hn : s.list.length ≤ 8) : Sat Try.prog 28 [.ptr 0 0] (cH s) (.own 2) [cR s, .sl 4 (s.list.map sR), .sl 4 (s.list.map sR)] := by
  refine sat_of_vc (T := tiOf Try.prog) (E := E0) Try.func28 rfl rfl hE0 hm0 rfl ?_
  conv => whnf
  repeat (any_goals (first
    | exact True.intro
    | (refine Or.inl ?_; conv => whnf)
    | (refine And.intro (fun _ => ?_) tf; conv => whnf)
    | (refine And.intro ft (fun _ => ?_); conv => whnf)
    | (refine And.intro (by kernel_rfl) ?_; conv => whnf)
    | (refine And.intro (by decide) ?_; conv => whnf)
    | (refine And.intro (fun _ => ?_) (fun h => absurd h (by decide)); conv => whnf)
    | (refine And.intro (fun h => absurd h (by decide)) (fun _ => ?_); conv => whnf)
    | (refine And.intro (fun _ => ?_) (fun _ => ?_) <;> conv => whnf)
    | (refine ⟨_, _, lendON (clone_sat s.list (by omega)) rfl (flat_map sR_flat _), ?_⟩; conv => whnf)))
  all_goals refine ⟨[], ?_⟩
  repeat (any_goals (first | exact True.intro | exact rfl | with_reducible_and_instances rfl | exact (by kernel_rfl) | refine And.intro ?_ ?_))
  all_goals conv => whnf
theorem clone1_sat (s : CSt) (hn : s.list.length ≤ 8) : Sat Try.prog 40 [.ptr 0 0] (cH s) (.ptr 2 0) [cR s, .sl 4 (s.list.map sR), .cells [iA s.rho, iA s.least, bA s.held, iA s.streak, .own 3], .sl 4 (s.list.map sR)] := by
  refine sat_of_vc (T := tiOf Try.prog) (E := E0) Try.func40 rfl rfl hE0 hm0 rfl ?_
  conv => whnf
  repeat (any_goals (first
    | exact True.intro
    | (refine Or.inl ?_; conv => whnf)
    | (refine And.intro (fun _ => ?_) tf; conv => whnf)
    | (refine And.intro ft (fun _ => ?_); conv => whnf)
    | (refine And.intro (by kernel_rfl) ?_; conv => whnf)
    | (refine And.intro (by decide) ?_; conv => whnf)
    | (refine And.intro (fun _ => ?_) (fun h => absurd h (by decide)); conv => whnf)
    | (refine And.intro (fun h => absurd h (by decide)) (fun _ => ?_); conv => whnf)
    | (refine And.intro (fun _ => ?_) (fun _ => ?_) <;> conv => whnf)
    | (refine ⟨_, _, lendON (clone_sat s.list (by omega)) rfl (flat_map sR_flat _), ?_⟩; conv => whnf)))
  all_goals refine ⟨[], ?_⟩
  repeat (any_goals (first | exact True.intro | exact rfl | with_reducible_and_instances rfl | exact (by kernel_rfl) | refine And.intro ?_ ?_))
  all_goals conv => whnf
def pointC (s : CSt) (stamp : Int) : Int × Nat := if (atC s stamp).2 = 0 then (midZ (atC s stamp).1, 0) else (0, (atC s stamp).2)
theorem point_sat (s : CSt) (stamp : Int) (hn : s.list.length ≤ 8) : Sat Try.prog 21 [.ptr 0 0, iA stamp] (cH s) (.tup [iA (pointC s stamp).1, iA (pointC s stamp).2]) (cH s) := by
  refine sat_of_vc (T := tiOf Try.prog) (E := E0) Try.func21 rfl rfl hE0 hm0 rfl ?_
  conv => whnf
  repeat (any_goals (first
    | exact True.intro
    | (refine Or.inl ?_; conv => whnf)
    | (refine And.intro (fun _ => ?_) tf; conv => whnf)
    | (refine And.intro ft (fun _ => ?_); conv => whnf)
    | (refine And.intro (by kernel_rfl) ?_; conv => whnf)
    | (refine And.intro (by decide) ?_; conv => whnf)
    | (refine And.intro (fun _ => ?_) (fun h => absurd h (by decide)); conv => whnf)
    | (refine And.intro (fun h => absurd h (by decide)) (fun _ => ?_); conv => whnf)
    | (refine And.intro (fun _ => ?_) (fun _ => ?_) <;> conv => whnf)
    | (refine ⟨_, _, (clkAt_sat s stamp hn).at2 0 1 rfl rfl rfl rfl rfl, ?_⟩; conv => whnf)
    | (refine ⟨_, _, (mid_sat _).pu rfl rfl, ?_⟩; conv => whnf)))
  · have h : ¬ (atC s stamp).2 = 0 := (by (try simp only [decide_eq_true_eq, decide_eq_false_iff_not, Bool.not_eq_true', Bool.not_eq_false', Bool.not_eq_true, Bool.not_eq_false, beq_iff_eq, bne_iff_ne, beq_eq_false_iff_ne, bne_eq_false_iff_eq, ne_eq, Decidable.not_not, Int.natCast_eq_zero] at *); first | omega | assumption | (simp_all; done) | (simp_all; omega))
    have hr : pointC s stamp = (0, (atC s stamp).2) := by unfold pointC; rw [if_neg h]
    rw [hr]
    all_goals refine ⟨[], ?_⟩
    repeat (any_goals (first | exact True.intro | exact rfl | with_reducible_and_instances rfl | exact (by kernel_rfl) | refine And.intro ?_ ?_))
    all_goals conv => whnf
  · have h : (atC s stamp).2 = 0 := (by (try simp only [decide_eq_true_eq, decide_eq_false_iff_not, Bool.not_eq_true', Bool.not_eq_false', Bool.not_eq_true, Bool.not_eq_false, beq_iff_eq, bne_iff_ne, beq_eq_false_iff_ne, bne_eq_false_iff_eq, ne_eq, Decidable.not_not, Int.natCast_eq_zero] at *); first | omega | assumption | (simp_all; done) | (simp_all; omega))
    have hr : pointC s stamp = (midZ (atC s stamp).1, 0) := by unfold pointC; rw [if_pos h]
    rw [hr]
    all_goals refine ⟨[], ?_⟩
    repeat (any_goals (first | exact True.intro | exact rfl | with_reducible_and_instances rfl | exact (by kernel_rfl) | refine And.intro ?_ ?_))
    all_goals conv => whnf
def tripZ (s : Smp) : Int := if okS s = true then (s.came - s.asked) - (s.sent - s.got) else 0
theorem trip_sat (x : Smp) : Sat Try.prog 32 [sA x] [] (iA (tripZ x)) [] := by
  refine sat_of_vc (T := tiOf Try.prog) (E := E0) Try.func32 rfl rfl hE0 hm0 rfl ?_
  conv => whnf
  repeat (any_goals (first
    | exact True.intro
    | (refine Or.inl ?_; conv => whnf)
    | (refine And.intro (fun _ => ?_) tf; conv => whnf)
    | (refine And.intro ft (fun _ => ?_); conv => whnf)
    | (refine And.intro (by kernel_rfl) ?_; conv => whnf)
    | (refine And.intro (by decide) ?_; conv => whnf)
    | (refine And.intro (fun _ => ?_) (fun h => absurd h (by decide)); conv => whnf)
    | (refine And.intro (fun h => absurd h (by decide)) (fun _ => ?_); conv => whnf)
    | (refine And.intro (fun _ => ?_) (fun _ => ?_) <;> conv => whnf)
    | (refine ⟨_, _, (right_sat _).pu rfl rfl, ?_⟩; conv => whnf)))
  · have h : ¬ okS x = true := (by (try simp only [decide_eq_true_eq, decide_eq_false_iff_not, Bool.not_eq_true', Bool.not_eq_false', Bool.not_eq_true, Bool.not_eq_false, beq_iff_eq, bne_iff_ne, beq_eq_false_iff_ne, bne_eq_false_iff_eq, ne_eq, Decidable.not_not, Int.natCast_eq_zero] at *); first | omega | assumption | (simp_all; done) | (simp_all; omega))
    unfold tripZ
    rw [if_neg h]
    all_goals refine ⟨[], ?_⟩
    repeat (any_goals (first | exact True.intro | exact rfl | with_reducible_and_instances rfl | exact (by kernel_rfl) | refine And.intro ?_ ?_))
    all_goals conv => whnf
  · have h : okS x = true := (by (try simp only [decide_eq_true_eq, decide_eq_false_iff_not, Bool.not_eq_true', Bool.not_eq_false', Bool.not_eq_true, Bool.not_eq_false, beq_iff_eq, bne_iff_ne, beq_eq_false_iff_ne, bne_eq_false_iff_eq, ne_eq, Decidable.not_not, Int.natCast_eq_zero] at *); first | omega | assumption | (simp_all; done) | (simp_all; omega))
    unfold tripZ
    rw [if_pos h]
    all_goals refine ⟨[], ?_⟩
    repeat (any_goals (first | exact True.intro | exact rfl | with_reducible_and_instances rfl | exact (by kernel_rfl) | refine And.intro ?_ ?_))
    all_goals conv => whnf
    simp [okS, isT] at h
    rw [wi (n := x.came - x.asked) (by omega) (by omega), wi (n := x.sent - x.got) (by omega) (by omega), wi (by omega) (by omega)]
end Go.Proofs.Ytgidaifoiljgoaa
/- clock.Clock.Set, and that the layer's code is alive, by conditions. -/
namespace Go.Proofs.Ytgidaifoiljgoaa
set_option linter.unusedSimpArgs false
set_option linter.unusedVariables false
open Go.RowKit
set_option maxRecDepth 100000
def setC (s : CSt) (held : Bool) (k : Int) (l : List Smp) : CSt × Nat :=
  if 8 < l.length ∨ k < 0 then (s, 10) else if l.all okS = true then (⟨s.rho, s.least, held, k, l⟩, 0) else (s, 10)
theorem all_hit {α : Type} {p : α → Bool} {l : List α} {k : Nat} {x : α} (hx : l[k]? = some x) (hp : p x = false) : ¬ l.all p = true := by
  intro h
  have := List.all_eq_true.1 h x (List.mem_of_getElem? hx)
  rw [hp] at this; cases this
theorem all_next {α : Type} {p : α → Bool} {l : List α} {k : Nat} {x : α} (hf : (l.take k).all p = true) (hx : l[k]? = some x) (hp : p x = true) : (l.take (k + 1)).all p = true := by
  rw [List.take_add_one, hx, List.all_append, hf]; simp [hp]
theorem set_sat (s : CSt) (held : Bool) (z : Int) (l : List Smp) (hl : l.length ≤ 140737488351232) : Sat Try.prog 41 [.ptr 0 0, bA held, iA z, .own 2] [cR s, .sl 4 (s.list.map sR), .sl 4 (l.map sR)] (iA (setC s held z l).2)
    [.cells [iA (setC s held z l).1.rho, iA (setC s held z l).1.least, bA (setC s held z l).1.held, iA (setC s held z l).1.streak, .own 3], .dead, .sl 4 (l.map sR), .sl 4 ((setC s held z l).1.list.map sR)] := by
  refine sat_of_vc (T := tiOf Try.prog) (E := E0) Try.func41 rfl rfl hE0 hm0 rfl ?_
  conv => whnf
  repeat (any_goals (first
    | exact True.intro
    | (refine And.intro (fun _ => ?_) tf; conv => whnf)
    | (refine And.intro ft (fun _ => ?_); conv => whnf)
    | (refine And.intro (by kernel_rfl) ?_; conv => whnf)
    | (refine And.intro (by decide) ?_; conv => whnf)
    | (refine And.intro (fun _ => ?_) (fun h => absurd h (by decide)); conv => whnf)
    | (refine And.intro (fun h => absurd h (by decide)) (fun _ => ?_); conv => whnf)
    | (refine And.intro (fun _ => ?_) (fun _ => ?_) <;> conv => whnf)))
  all_goals try (refine Or.inl ?_; conv => whnf)
  repeat (any_goals (first
    | exact True.intro
    | (refine And.intro (fun _ => ?_) tf; conv => whnf)
    | (refine And.intro ft (fun _ => ?_); conv => whnf)
    | (refine And.intro (by kernel_rfl) ?_; conv => whnf)
    | (refine And.intro (by decide) ?_; conv => whnf)
    | (refine And.intro (fun _ => ?_) (fun h => absurd h (by decide)); conv => whnf)
    | (refine And.intro (fun h => absurd h (by decide)) (fun _ => ?_); conv => whnf)
    | (refine And.intro (fun _ => ?_) (fun _ => ?_) <;> conv => whnf)))
  all_goals try (exfalso; simp only [decide_eq_true_eq, decide_eq_false_iff_not, Bool.not_eq_true', Bool.not_eq_false', Bool.not_eq_true, Bool.not_eq_false, beq_iff_eq, bne_iff_ne, beq_eq_false_iff_ne, bne_eq_false_iff_eq, ne_eq, Decidable.not_not] at *; first | omega | contradiction | (simp_all; done) | (simp_all; omega))
  · have hr : setC s held z l = (s, 10) := by unfold setC; rw [if_pos (by simp at *; omega)]
    rw [hr]
    all_goals refine ⟨[(1, 3)], ?_⟩
    repeat (any_goals (first | exact True.intro | exact rfl | with_reducible_and_instances rfl | exact (by kernel_rfl) | refine And.intro ?_ ?_))
    all_goals conv => whnf
  · have h0 : ¬ (8 < l.length ∨ z < 0) := by simp at *; omega
    all_goals try (refine Or.inl ?_; conv => whnf)
    repeat (any_goals (first
      | exact True.intro
      | (refine And.intro (fun _ => ?_) tf; conv => whnf)
      | (refine And.intro ft (fun _ => ?_); conv => whnf)
      | (refine And.intro (by kernel_rfl) ?_; conv => whnf)
      | (refine And.intro (by decide) ?_; conv => whnf)
      | (refine And.intro (fun _ => ?_) (fun h => absurd h (by decide)); conv => whnf)
      | (refine And.intro (fun h => absurd h (by decide)) (fun _ => ?_); conv => whnf)
      | (refine And.intro (fun _ => ?_) (fun _ => ?_) <;> conv => whnf)))
    refine ⟨Nat, fun k => k ≤ l.length ∧ (l.take k).all okS = true, fun k => ([(20, iA k), (19, iA (l.map sR).length), (18, .own 2), (0, .ptr 0 0), (1, bA held), (2, iA z), (3, .own 2)], [cR s, .sl 4 (s.list.map sR), .sl 4 (l.map sR)]), fun k => l.length - k, ⟨0, ⟨Nat.zero_le _, rfl⟩, ?_⟩, ?_⟩
    · all_goals refine ⟨[], ?_⟩
      repeat (any_goals (first | exact True.intro | exact rfl | with_reducible_and_instances rfl | exact (by kernel_rfl) | refine And.intro ?_ ?_))
      all_goals conv => whnf
    rintro k ⟨hk, hf⟩
    conv => whnf
    by_cases hlt : k < l.length
    · have hx : l[k]? = some l[k] := List.getElem?_eq_getElem hlt
      repeat (any_goals (first
        | exact True.intro
        | (refine And.intro (fun _ => ?_) tf; conv => whnf)
        | (refine And.intro ft (fun _ => ?_); conv => whnf)
        | (refine And.intro (by kernel_rfl) ?_; conv => whnf)
        | (refine And.intro (by decide) ?_; conv => whnf)
        | (refine And.intro (fun _ => ?_) (fun h => absurd h (by decide)); conv => whnf)
        | (refine And.intro (fun h => absurd h (by decide)) (fun _ => ?_); conv => whnf)
        | (refine And.intro (fun _ => ?_) (fun h => absurd h (by simpa using hlt)); conv => whnf)
        | (refine And.intro (fun _ => ?_) (fun _ => ?_) <;> conv => whnf)))
      all_goals try (refine Or.inl ?_; conv => whnf)
      repeat (any_goals (first
        | exact True.intro
        | (refine And.intro (fun _ => ?_) tf; conv => whnf)
        | (refine And.intro ft (fun _ => ?_); conv => whnf)
        | (refine And.intro (by kernel_rfl) ?_; conv => whnf)
        | (refine And.intro (by decide) ?_; conv => whnf)
        | (refine And.intro (fun _ => ?_) (fun h => absurd h (by decide)); conv => whnf)
        | (refine And.intro (fun h => absurd h (by decide)) (fun _ => ?_); conv => whnf)
        | (refine And.intro (fun _ => ?_) (fun _ => ?_) <;> conv => whnf)))
      all_goals try (exfalso; simp only [decide_eq_true_eq, decide_eq_false_iff_not, Bool.not_eq_true', Bool.not_eq_false', Bool.not_eq_true, Bool.not_eq_false, beq_iff_eq, bne_iff_ne, beq_eq_false_iff_ne, bne_eq_false_iff_eq, ne_eq, Decidable.not_not] at *; first | omega | contradiction | (simp_all; done) | (simp_all; omega))
      all_goals try (refine Or.inl ?_; conv => whnf)
      repeat (any_goals (first
        | exact True.intro
        | (refine And.intro (fun _ => ?_) tf; conv => whnf)
        | (refine And.intro ft (fun _ => ?_); conv => whnf)
        | (refine And.intro (by kernel_rfl) ?_; conv => whnf)
        | (refine And.intro (by decide) ?_; conv => whnf)
        | (refine And.intro (fun _ => ?_) (fun h => absurd h (by decide)); conv => whnf)
        | (refine And.intro (fun h => absurd h (by decide)) (fun _ => ?_); conv => whnf)
        | (refine ⟨_, rfl, by simpa using hlt, ?_⟩; conv => whnf)
        | (refine ⟨_, map_get hx, ?_⟩; conv => whnf)
        | (refine And.intro (fun _ => ?_) (fun _ => ?_) <;> conv => whnf)
        | (refine ⟨_, _, (right_sat _).pu rfl rfl, ?_⟩; conv => whnf)))
      all_goals try (refine Or.inl ?_; conv => whnf)
      repeat (any_goals (first
        | exact True.intro
        | (refine And.intro (fun _ => ?_) tf; conv => whnf)
        | (refine And.intro ft (fun _ => ?_); conv => whnf)
        | (refine And.intro (by kernel_rfl) ?_; conv => whnf)
        | (refine And.intro (by decide) ?_; conv => whnf)
        | (refine And.intro (fun _ => ?_) (fun h => absurd h (by decide)); conv => whnf)
        | (refine And.intro (fun h => absurd h (by decide)) (fun _ => ?_); conv => whnf)
        | (refine And.intro (fun _ => ?_) (fun _ => ?_) <;> conv => whnf)))
      · have hr : setC s held z l = (s, 10) := by unfold setC; rw [if_neg h0, if_neg (all_hit hx (by (try simp only [decide_eq_true_eq, decide_eq_false_iff_not, Bool.not_eq_true', Bool.not_eq_false', Bool.not_eq_true, Bool.not_eq_false, beq_iff_eq, bne_iff_ne, beq_eq_false_iff_ne, bne_eq_false_iff_eq, ne_eq, Decidable.not_not, Int.natCast_eq_zero] at *); first | omega | assumption | (simp_all; done) | (simp_all; omega)))]
        rw [hr]
        all_goals refine ⟨[(1, 4), (3, 4)], ?_⟩
        repeat (any_goals (first | exact True.intro | exact rfl | with_reducible_and_instances rfl | exact (by kernel_rfl) | refine And.intro ?_ ?_))
        all_goals conv => whnf
      · refine ⟨k + 1, ⟨hlt, all_next hf hx (by (try simp only [decide_eq_true_eq, decide_eq_false_iff_not, Bool.not_eq_true', Bool.not_eq_false', Bool.not_eq_true, Bool.not_eq_false, beq_iff_eq, bne_iff_ne, beq_eq_false_iff_ne, bne_eq_false_iff_eq, ne_eq, Decidable.not_not, Int.natCast_eq_zero] at *); first | omega | assumption | (simp_all; done) | (simp_all; omega))⟩, show l.length - (k + 1) < l.length - k by omega, ?_⟩
        all_goals refine ⟨[], ?_⟩
        repeat (any_goals (first | exact True.intro | exact rfl | with_reducible_and_instances rfl | exact (by kernel_rfl) | refine And.intro ?_ ?_))
        all_goals conv => whnf
        exact wk1 (by omega)
    · have hkk : k = l.length := by omega
      subst hkk
      repeat (any_goals (first
        | exact True.intro
        | (refine And.intro (fun _ => ?_) tf; conv => whnf)
        | (refine And.intro ft (fun _ => ?_); conv => whnf)
        | (refine And.intro (by kernel_rfl) ?_; conv => whnf)
        | (refine And.intro (by decide) ?_; conv => whnf)
        | (refine And.intro (fun _ => ?_) (fun h => absurd h (by decide)); conv => whnf)
        | (refine And.intro (fun h => absurd h (by decide)) (fun _ => ?_); conv => whnf)
        | (refine And.intro (fun h => absurd h (by simpa using hlt)) (fun _ => ?_); conv => whnf)
        | (refine And.intro (fun _ => ?_) (fun _ => ?_) <;> conv => whnf)))
      all_goals try (refine Or.inl ?_; conv => whnf)
      repeat (any_goals (first
        | exact True.intro
        | (refine And.intro (fun _ => ?_) tf; conv => whnf)
        | (refine And.intro ft (fun _ => ?_); conv => whnf)
        | (refine And.intro (by kernel_rfl) ?_; conv => whnf)
        | (refine And.intro (by decide) ?_; conv => whnf)
        | (refine And.intro (fun _ => ?_) (fun h => absurd h (by decide)); conv => whnf)
        | (refine And.intro (fun h => absurd h (by decide)) (fun _ => ?_); conv => whnf)
        | (refine And.intro (fun _ => ?_) (fun _ => ?_) <;> conv => whnf)))
      all_goals try (exfalso; simp only [decide_eq_true_eq, decide_eq_false_iff_not, Bool.not_eq_true', Bool.not_eq_false', Bool.not_eq_true, Bool.not_eq_false, beq_iff_eq, bne_iff_ne, beq_eq_false_iff_ne, bne_eq_false_iff_eq, ne_eq, Decidable.not_not] at *; first | omega | contradiction | (simp_all; done) | (simp_all; omega))
      rw [List.take_length] at hf
      have hr : setC s held z l = (⟨s.rho, s.least, held, z, l⟩, 0) := by unfold setC; rw [if_neg h0, if_pos hf]
      rw [hr]
      repeat (any_goals (first
        | exact True.intro
        | (refine And.intro (fun _ => ?_) tf; conv => whnf)
        | (refine And.intro ft (fun _ => ?_); conv => whnf)
        | (refine And.intro (by kernel_rfl) ?_; conv => whnf)
        | (refine And.intro (by decide) ?_; conv => whnf)
        | (refine And.intro (fun _ => ?_) (fun h => absurd h (by decide)); conv => whnf)
        | (refine And.intro (fun h => absurd h (by decide)) (fun _ => ?_); conv => whnf)
        | (refine And.intro (fun _ => ?_) (fun _ => ?_) <;> conv => whnf)
        | (refine ⟨_, _, lendON (clone_sat l (by simp at *; omega)) rfl (flat_map sR_flat _), ?_⟩; conv => whnf)))
      all_goals refine ⟨[], ?_⟩
      repeat (any_goals (first | exact True.intro | exact rfl | with_reducible_and_instances rfl | exact (by kernel_rfl) | refine And.intro ?_ ?_))
      all_goals conv => whnf
  · have hr : setC s held z l = (s, 10) := by unfold setC; rw [if_pos (by simp at *; omega)]
    rw [hr]
    all_goals refine ⟨[(1, 3)], ?_⟩
    repeat (any_goals (first | exact True.intro | exact rfl | with_reducible_and_instances rfl | exact (by kernel_rfl) | refine And.intro ?_ ?_))
    all_goals conv => whnf
end Go.Proofs.Ytgidaifoiljgoaa
/- That the layer's code is alive, by conditions. -/
namespace Go.Proofs.Ytgidaifoiljgoaa
set_option linter.unusedSimpArgs false
set_option linter.unusedVariables false
open Go.RowKit
set_option maxRecDepth 100000
def q1 : Smp := ⟨100, 7, 9, 110⟩
def q2 : Smp := ⟨300, 9, 9, 301⟩
def q3 : Smp := ⟨310, 19, 19, 311⟩
def t0 : CSt := ⟨0, 1, false, 0, []⟩
def t1 : CSt := ⟨0, 1, false, 1, [q1]⟩
def t2 : CSt := ⟨0, 1, true, 0, [q2]⟩
def t3 : CSt := ⟨0, 1, false, 1, [q2, q3]⟩
theorem c1 : addC t0 q1 = (t1, 0) := by kernel_rfl
theorem c2 : addC t1 q2 = (t2, 21) := by kernel_rfl
theorem c3 : addC t2 q3 = (t3, 0) := by kernel_rfl
theorem c4 : atC t0 9 = ((0, 0), 19) := by kernel_rfl
theorem c5 : atC t1 9 = ((101, 111), 0) := by kernel_rfl
theorem c6 : pointC t1 9 = (106, 0) := by kernel_rfl
theorem c7 : atR q1 9 0 = ((101, 111), 0) := by kernel_rfl
theorem c8 : setC t3 true 0 [q1] = (⟨0, 1, true, 0, [q1]⟩, 0) := by kernel_rfl
theorem alive_sat : Sat Try.prog 12 [] [] (bA true) [] := by
  have a1 := at_sat q1 9 0 (by omega) (by omega)
  have n1 := new_ok 0 1 rfl (by omega) (by omega)
  have a0 := clkAt_sat t0 9 (by decide)
  have d1 := add_sat t0 q1 (by decide) (by decide)
  have a2 := clkAt_sat t1 9 (by decide)
  have p1 := point_sat t1 9 (by decide)
  have l1 := clone1_sat t1 (by decide)
  have d2 := add_sat t1 q2 (by decide) (by decide)
  have m2 := samples_sat t2 (by decide)
  have d3 := add_sat t2 q3 (by decide) (by decide)
  have v1 := set_sat t3 true 0 [q1] (by decide)
  rw [c7] at a1
  rw [c4] at a0
  rw [c1] at d1
  rw [c5] at a2
  rw [c6] at p1
  rw [c2] at d2
  rw [c3] at d3
  rw [c8] at v1
  refine sat_of_vc (T := tiOf Try.prog) (E := E0) Try.func12 rfl rfl hE0 hm0 rfl ?_
  conv => whnf
  repeat (any_goals (first
    | exact True.intro
    | (refine Or.inl ?_; conv => whnf)
    | (refine And.intro (fun _ => ?_) tf; conv => whnf)
    | (refine And.intro ft (fun _ => ?_); conv => whnf)
    | (refine And.intro (by kernel_rfl) ?_; conv => whnf)
    | (refine And.intro (by decide) ?_; conv => whnf)
    | (refine And.intro (fun _ => ?_) (fun h => absurd h (by decide)); conv => whnf)
    | (refine And.intro (fun h => absurd h (by decide)) (fun _ => ?_); conv => whnf)
    | (refine ⟨0, rfl, by decide, ?_⟩; conv => whnf)
    | (refine ⟨_, rfl, ?_⟩; conv => whnf)
    | (refine And.intro (fun _ => ?_) (fun _ => ?_) <;> conv => whnf)
    | (refine ⟨_, _, a1.pu rfl rfl, ?_⟩; conv => whnf)
    | (refine ⟨_, _, n1.nw rfl, ?_⟩; conv => whnf)
    | (refine ⟨_, _, a0.at2 2 3 rfl rfl rfl rfl rfl, ?_⟩; conv => whnf)
    | (refine ⟨_, _, d1.at2 2 3 rfl rfl rfl rfl rfl, ?_⟩; conv => whnf)
    | (refine ⟨_, _, a2.at2 2 5 rfl rfl rfl rfl rfl, ?_⟩; conv => whnf)
    | (refine ⟨_, _, p1.at2 2 5 rfl rfl rfl rfl rfl, ?_⟩; conv => whnf)
    | (refine ⟨_, _, l1.at2 2 5 rfl rfl rfl rfl rfl, ?_⟩; conv => whnf)
    | (refine ⟨_, _, d2.at2 2 5 rfl rfl rfl rfl rfl, ?_⟩; conv => whnf)
    | (refine ⟨_, _, (held_sat t2).at2 2 9 rfl rfl rfl rfl rfl, ?_⟩; conv => whnf)
    | (refine ⟨_, _, m2.at2 2 9 rfl rfl rfl rfl rfl, ?_⟩; conv => whnf)
    | (refine ⟨_, _, d3.at2 2 9 rfl rfl rfl rfl rfl, ?_⟩; conv => whnf)
    | (refine ⟨_, _, (held_sat t3).at2 2 11 rfl rfl rfl rfl rfl, ?_⟩; conv => whnf)
    | (refine ⟨_, _, (streak_sat t3).at2 2 11 rfl rfl rfl rfl rfl, ?_⟩; conv => whnf)
    | (refine ⟨_, _, (right_sat q1).pu rfl rfl, ?_⟩; conv => whnf)
    | (refine ⟨_, _, (trip_sat q1).pu rfl rfl, ?_⟩; conv => whnf)
    | (refine ⟨_, _, (held_sat t1).at2 7 8 rfl rfl rfl rfl rfl, ?_⟩; conv => whnf)
    | (refine ⟨_, _, (streak_sat t1).at2 7 8 rfl rfl rfl rfl rfl, ?_⟩; conv => whnf)
    | (refine ⟨_, _, v1.at3 2 11 12 rfl rfl rfl rfl rfl rfl, ?_⟩; conv => whnf)
    | (refine ⟨_, _, (held_sat ⟨0, 1, true, 0, [q1]⟩).at2 2 13 rfl rfl rfl rfl rfl, ?_⟩; conv => whnf)
    | (refine ⟨_, _, eqP (by kernel_rfl), ?_⟩; conv => whnf)
    | (refine ⟨_, _, neP (by kernel_rfl), ?_⟩; conv => whnf)
    | (refine ⟨_, _, eqS (by kernel_rfl), ?_⟩; conv => whnf)))
  all_goals refine ⟨[], ?_⟩
  repeat (any_goals (first | exact True.intro | exact rfl | with_reducible_and_instances rfl | exact (by kernel_rfl) | refine And.intro ?_ ?_))
  all_goals conv => whnf
end Go.Proofs.Ytgidaifoiljgoaa
/- Plain laws of a sample's interval. -/
namespace Go.Proofs.Ytgidaifoiljgoaa
set_option linter.unusedSimpArgs false
set_option linter.unusedVariables false
open Go.RowKit
theorem ratN_up (a b c : Nat) (hc : 0 < c) : ratN a b c true = (a * b + (c - 1)) / c := by
  unfold ratN
  have hd := Nat.div_add_mod (a * b) c
  have hm := Nat.mod_lt (a * b) hc
  generalize hq : a * b / c = q at *
  generalize hr : a * b % c = r at *
  split
  · rename_i h
    symm
    rw [Nat.div_eq_iff hc]
    have : c * (q + 1) = c * q + c := Nat.mul_succ c q
    have : (q + 1) * c = c * (q + 1) := Nat.mul_comm _ _
    omega
  · rename_i h
    have h0 : r = 0 := by simpa using h
    symm
    rw [Nat.div_eq_iff hc]
    have : q * c = c * q := Nat.mul_comm _ _
    omega
theorem ratN_mono (a a' b c : Nat) (up : Bool) (hc : 0 < c) (h : a ≤ a') : ratN a b c up ≤ ratN a' b c up := by
  have hm : a * b ≤ a' * b := Nat.mul_le_mul_right _ h
  cases up with
  | true => rw [ratN_up _ _ _ hc, ratN_up _ _ _ hc]; exact Nat.div_le_div_right (by omega)
  | false => unfold ratN; simp; exact Nat.div_le_div_right hm
theorem lowZ_mono (x y r : Int) (hr : okRate r = true) (h : x ≤ y) : lowZ x r ≤ lowZ y r := by
  have hr := of_decide_eq_true hr
  unfold lowZ
  split
  · rw [if_pos (by omega)]
    have := ratN_mono (x - 1).toNat (y - 1).toNat 1000000 (1000000 + r).toNat true (by omega) (by omega)
    omega
  · split
    · omega
    · have := ratN_mono (1 - y).toNat (1 - x).toNat 1000000 (1000000 - r).toNat false (by omega) (by omega)
      omega
theorem atR_out {s : Smp} {a rho : Int} (h : (atR s a rho).2 = 0) : okS s = true ∧ isT a = true ∧ okRate rho = true ∧ atLo s a rho ≤ atHi s a rho ∧ (atR s a rho).1 = (atLo s a rho, atHi s a rho) := by
  unfold atR at h ⊢
  by_cases h1 : okS s = false
  · rw [if_pos h1] at h; cases h
  · rw [if_neg h1] at h ⊢
    by_cases h2 : isT a = false ∨ okRate rho = false
    · rw [if_pos h2] at h; cases h
    · rw [if_neg h2] at h ⊢
      by_cases h3 : atHi s a rho < atLo s a rho
      · rw [if_pos h3] at h; cases h
      · rw [if_neg h3]
        simp at h1 h2
        exact ⟨h1, h2.1, h2.2, by omega, rfl⟩
theorem rises_plain (s : Smp) (a b rho : Int) (ha : (atR s a rho).2 = 0) (hb : (atR s b rho).2 = 0) (h : a ≤ b) : (atR s a rho).1.1 ≤ (atR s b rho).1.1 ∧ (atR s a rho).1.2 ≤ (atR s b rho).1.2 := by
  obtain ⟨_, _, hr, _, e1⟩ := atR_out ha
  obtain ⟨_, _, _, _, e2⟩ := atR_out hb
  rw [e1, e2]
  unfold atLo atHi highZ
  have h1 := lowZ_mono (a - s.got) (b - s.got) rho hr (by omega)
  have h2 := lowZ_mono (-(b - s.sent)) (-(a - s.sent)) rho hr (by omega)
  constructor <;> omega
end Go.Proofs.Ytgidaifoiljgoaa
/- ClockRises, by conditions. -/
namespace Go.Proofs.Ytgidaifoiljgoaa
set_option linter.unusedSimpArgs false
set_option linter.unusedVariables false
open Go.RowKit
set_option maxRecDepth 100000
def inS (s : Smp) : Prop := in64 s.asked ∧ in64 s.got ∧ in64 s.sent ∧ in64 s.came
theorem ty_smp {x : D} (h : TyV Try.prog 33 x) : ∃ s, x = .agg (sR s) ∧ inS s := by
  obtain ⟨zs, h1, rfl, h3⟩ := ty_sints (n := 4) h (by kernel_rfl)
  match zs, h1, h3 with
  | [a, b, c, d], _, h3 => exact ⟨⟨a, b, c, d⟩, rfl, h3 a (by simp), h3 b (by simp), h3 c (by simp), h3 d (by simp)⟩
theorem ty_smps {x : D} (h : TyV Try.prog 22 x) : ∃ l : List Smp, x = .sl 4 (l.map sR) ∧ (∀ s ∈ l, inS s) ∧ l.length * 32 ≤ reachBytes := by
  obtain ⟨rows, rfl, h2, h3⟩ := ty_slice h Try.underlying22
  obtain ⟨l, rfl, hl⟩ := rows_map (f := sR) (p := inS) fun r hr => by
    obtain ⟨zs, h1, rfl, h3⟩ := ty_ints (n := 4) (h2 r hr) (by kernel_rfl)
    match zs, h1, h3 with
    | [a, b, c, d], _, h3 => exact ⟨⟨a, b, c, d⟩, rfl, h3 a (by simp), h3 b (by simp), h3 c (by simp), h3 d (by simp)⟩
  refine ⟨l, ?_, hl, ?_⟩
  · rw [show Try.prog.cellsOf 33 = 4 by kernel_rfl]
  · rw [show Try.prog.bytesOf 33 = 32 by kernel_rfl, List.length_map] at h3; exact h3
theorem rises_sat (s : Smp) (a b rho : Int) (ha : in64 a) (hb : in64 b) : Sat Try.prog 4 [sA s, iA a, iA b, iA rho] [] (bA true) [] := by
  refine sat_of_vc (T := tiOf Try.prog) (E := E0) Try.func4 rfl rfl hE0 hm0 rfl ?_
  conv => whnf
  repeat (any_goals (first
    | exact True.intro
    | (refine Or.inl ?_; conv => whnf)
    | (refine And.intro (fun _ => ?_) tf; conv => whnf)
    | (refine And.intro ft (fun _ => ?_); conv => whnf)
    | (refine And.intro (by kernel_rfl) ?_; conv => whnf)
    | (refine And.intro (by decide) ?_; conv => whnf)
    | (refine And.intro (fun _ => ?_) (fun h => absurd h (by decide)); conv => whnf)
    | (refine And.intro (fun h => absurd h (by decide)) (fun _ => ?_); conv => whnf)
    | (refine And.intro (fun _ => ?_) (fun _ => ?_) <;> conv => whnf)
    | (refine ⟨_, _, alive_sat.pu rfl rfl, ?_⟩; conv => whnf)
    | (refine ⟨_, _, (at_sat s a rho ha.1 ha.2).pu rfl rfl, ?_⟩; conv => whnf)
    | (refine ⟨_, _, (at_sat s b rho hb.1 hb.2).pu rfl rfl, ?_⟩; conv => whnf)))
  · all_goals refine ⟨[], ?_⟩
    repeat (any_goals (first | exact True.intro | exact rfl | with_reducible_and_instances rfl | exact (by kernel_rfl) | refine And.intro ?_ ?_))
    all_goals conv => whnf
  · have h1 : (atR s a rho).2 = 0 := (by (try simp only [decide_eq_true_eq, decide_eq_false_iff_not, Bool.not_eq_true', Bool.not_eq_false', Bool.not_eq_true, Bool.not_eq_false, beq_iff_eq, bne_iff_ne, beq_eq_false_iff_ne, bne_eq_false_iff_eq, ne_eq, Decidable.not_not, Int.natCast_eq_zero] at *); first | omega | assumption | (simp_all; done) | (simp_all; omega))
    have h2 : (atR s b rho).2 = 0 := (by (try simp only [decide_eq_true_eq, decide_eq_false_iff_not, Bool.not_eq_true', Bool.not_eq_false', Bool.not_eq_true, Bool.not_eq_false, beq_iff_eq, bne_iff_ne, beq_eq_false_iff_ne, bne_eq_false_iff_eq, ne_eq, Decidable.not_not, Int.natCast_eq_zero] at *); first | omega | assumption | (simp_all; done) | (simp_all; omega))
    have h3 : a ≤ b := (by (try simp only [decide_eq_true_eq, decide_eq_false_iff_not, Bool.not_eq_true', Bool.not_eq_false', Bool.not_eq_true, Bool.not_eq_false, beq_iff_eq, bne_iff_ne, beq_eq_false_iff_ne, bne_eq_false_iff_eq, ne_eq, Decidable.not_not, Int.natCast_eq_zero] at *); first | omega | assumption | (simp_all; done) | (simp_all; omega))
    rw [decide_eq_true (rises_plain s a b rho h1 h2 h3).2]
    all_goals refine ⟨[], ?_⟩
    repeat (any_goals (first | exact True.intro | exact rfl | with_reducible_and_instances rfl | exact (by kernel_rfl) | refine And.intro ?_ ?_))
    all_goals conv => whnf
  · exfalso
    have h1 : (atR s a rho).2 = 0 := (by (try simp only [decide_eq_true_eq, decide_eq_false_iff_not, Bool.not_eq_true', Bool.not_eq_false', Bool.not_eq_true, Bool.not_eq_false, beq_iff_eq, bne_iff_ne, beq_eq_false_iff_ne, bne_eq_false_iff_eq, ne_eq, Decidable.not_not, Int.natCast_eq_zero] at *); first | omega | assumption | (simp_all; done) | (simp_all; omega))
    have h2 : (atR s b rho).2 = 0 := (by (try simp only [decide_eq_true_eq, decide_eq_false_iff_not, Bool.not_eq_true', Bool.not_eq_false', Bool.not_eq_true, Bool.not_eq_false, beq_iff_eq, bne_iff_ne, beq_eq_false_iff_ne, bne_eq_false_iff_eq, ne_eq, Decidable.not_not, Int.natCast_eq_zero] at *); first | omega | assumption | (simp_all; done) | (simp_all; omega))
    have h3 : a ≤ b := (by (try simp only [decide_eq_true_eq, decide_eq_false_iff_not, Bool.not_eq_true', Bool.not_eq_false', Bool.not_eq_true, Bool.not_eq_false, beq_iff_eq, bne_iff_ne, beq_eq_false_iff_ne, bne_eq_false_iff_eq, ne_eq, Decidable.not_not, Int.natCast_eq_zero] at *); first | omega | assumption | (simp_all; done) | (simp_all; omega))
    have h4 := (rises_plain s a b rho h1 h2 h3).1
    simp_all
  · all_goals refine ⟨[], ?_⟩
    repeat (any_goals (first | exact True.intro | exact rfl | with_reducible_and_instances rfl | exact (by kernel_rfl) | refine And.intro ?_ ?_))
    all_goals conv => whnf
  · all_goals refine ⟨[], ?_⟩
    repeat (any_goals (first | exact True.intro | exact rfl | with_reducible_and_instances rfl | exact (by kernel_rfl) | refine And.intro ?_ ?_))
    all_goals conv => whnf
theorem rises_law (H : Type) (enc : TypeId × Value → H) : LawWalk H enc Try.prog 4 Try.f4 :=
  lawWalk_of_sat (by kernel_rfl) fun args h => by
    obtain ⟨x, _, rfl, h1, h⟩ := h
    obtain ⟨a, _, rfl, h2, h⟩ := h
    obtain ⟨b, _, rfl, h3, h⟩ := h
    obtain ⟨r, _, rfl, h4, h⟩ := h
    obtain rfl := h
    obtain ⟨s, rfl, _⟩ := ty_smp h1
    obtain ⟨a, rfl, ha⟩ := ty_i64 h2 Try.underlying2
    obtain ⟨b, rfl, hb⟩ := ty_i64 h3 Try.underlying2
    obtain ⟨r, rfl, _⟩ := ty_i64 h4 Try.underlying2
    exact rises_sat s a b r ha hb
end Go.Proofs.Ytgidaifoiljgoaa
/- ClockTrusts, by conditions. -/
namespace Go.Proofs.Ytgidaifoiljgoaa
set_option linter.unusedSimpArgs false
set_option linter.unusedVariables false
open Go.RowKit
set_option maxRecDepth 100000
/-- What a clock always is. -/
structure CInv (s : CSt) (rho least : Int) (k : Nat) : Prop where
  r : s.rho = rho
  l : s.least = least
  s0 : 0 ≤ s.streak
  s1 : s.streak ≤ k
  n8 : s.list.length ≤ 8
  ns : (s.list.length : Int) ≤ s.streak + 1
theorem keep_le (l : List Smp) (x : Smp) (h : l.length ≤ 8) : (keepC (l ++ [x])).length ≤ 8 ∧ (keepC (l ++ [x])).length ≤ l.length + 1 := by unfold keepC; split <;> simp at * <;> omega
/-- What Add does, each way. -/
theorem addC_ways (s : CSt) (x : Smp) {rho least : Int} {k : Nat} (I : CInv s rho least k) (hk : k ≤ 1000000) :
    (okS x = false ∧ addC s x = (s, 10)) ∨
    (okS x = true ∧ (addC s x).2 = 0 ∧ (addC s x).1.streak = s.streak + 1 ∧ (addC s x).1.held = (s.held && decide (s.streak + 1 < least)) ∧ CInv (addC s x).1 rho least (k + 1)) ∨
    (okS x = true ∧ (addC s x).2 = 21 ∧ (addC s x).1.streak = 0 ∧ (addC s x).1.held = true ∧ CInv (addC s x).1 rho least (k + 1)) := by
  obtain ⟨r, l, s0, s1, n8, ns⟩ := I
  cases hx : okS x with
  | false => exact .inl ⟨rfl, by unfold addC; rw [if_pos hx]⟩
  | true =>
    right
    have h0 : ¬ okS x = false := by simp [hx]
    have hk2 := keep_le s.list x n8
    by_cases ha : agreeB ((keepC (s.list ++ [x])).map fun o => gapOf o x.sent s.rho) = true
    · left
      have hr : addC s x = (⟨s.rho, s.least, if s.least ≤ s.streak + 1 then false else s.held, s.streak + 1, keepC (s.list ++ [x])⟩, 0) := by
        unfold addC; rw [if_neg h0, if_pos ha, if_pos (by omega)]
      rw [hr]
      refine ⟨rfl, rfl, rfl, ?_, ⟨r, l, by show 0 ≤ s.streak + 1; omega, by show s.streak + 1 ≤ _; omega, hk2.1, by show ((keepC (s.list ++ [x])).length : Int) ≤ s.streak + 1 + 1; omega⟩⟩
      show (if s.least ≤ s.streak + 1 then false else s.held) = _
      rw [l]
      split
      · rw [decide_eq_false (by omega)]; simp
      · rw [decide_eq_true (by omega)]; simp
    · right
      have hr : addC s x = (⟨s.rho, s.least, true, 0, if okG (gapOf x x.sent s.rho) = true then [x] else []⟩, 21) := by
        unfold addC; rw [if_neg h0, if_neg ha]
      rw [hr]
      refine ⟨rfl, rfl, rfl, rfl, ⟨r, l, by show (0 : Int) ≤ 0; omega, by show (0 : Int) ≤ _; omega, ?_, ?_⟩⟩
      · show (if okG (gapOf x x.sent s.rho) = true then [x] else []).length ≤ 8
        split <;> simp
      · show ((if okG (gapOf x x.sent s.rho) = true then [x] else []).length : Int) ≤ 0 + 1
        split <;> simp
theorem trusts_sat (rho trust : Int) (l : List Smp) : Sat Try.prog 5 [iA rho, iA trust, .d (.sl 4 (l.map sR))] [] (bA true) [] := by
  by_cases h60 : 60 < l.length
  · refine sat_of_vc (T := tiOf Try.prog) (E := E0) Try.func5 rfl rfl hE0 hm0 rfl ?_
    conv => whnf
    repeat (any_goals (first
      | exact True.intro
      | (refine Or.inl ?_; conv => whnf)
      | (refine And.intro (fun _ => ?_) tf; conv => whnf)
      | (refine And.intro ft (fun _ => ?_); conv => whnf)
      | (refine And.intro (by kernel_rfl) ?_; conv => whnf)
      | (refine And.intro (by decide) ?_; conv => whnf)
      | (refine And.intro (fun _ => ?_) (fun h => absurd h (by decide)); conv => whnf)
      | (refine And.intro (fun h => absurd h (by decide)) (fun _ => ?_); conv => whnf)
      | (refine And.intro (fun _ => ?_) (fun _ => ?_) <;> conv => whnf)
      | (refine ⟨_, _, alive_sat.pu rfl rfl, ?_⟩; conv => whnf)))
    all_goals try (exfalso; simp only [decide_eq_true_eq, decide_eq_false_iff_not, Bool.not_eq_true', Bool.not_eq_false', Bool.not_eq_true, Bool.not_eq_false, beq_iff_eq, bne_iff_ne, beq_eq_false_iff_ne, bne_eq_false_iff_eq, ne_eq, Decidable.not_not] at *; first | omega | contradiction | (simp_all; done) | (simp_all; omega))
    all_goals refine ⟨[], ?_⟩
    repeat (any_goals (first | exact True.intro | exact rfl | with_reducible_and_instances rfl | exact (by kernel_rfl) | refine And.intro ?_ ?_))
    all_goals conv => whnf
  by_cases hok : okRate rho = true ∧ 0 ≤ trust ∧ trust ≤ 100
  · have n1 := new_ok rho trust hok.1 hok.2.1 hok.2.2
    refine sat_of_vc (T := tiOf Try.prog) (E := E0) Try.func5 rfl rfl hE0 hm0 rfl ?_
    conv => whnf
    repeat (any_goals (first
      | exact True.intro
      | (refine And.intro (fun _ => ?_) tf; conv => whnf)
      | (refine And.intro ft (fun _ => ?_); conv => whnf)
      | (refine And.intro (by kernel_rfl) ?_; conv => whnf)
      | (refine And.intro (by decide) ?_; conv => whnf)
      | (refine And.intro (fun _ => ?_) (fun h => absurd h (by decide)); conv => whnf)
      | (refine And.intro (fun h => absurd h (by decide)) (fun _ => ?_); conv => whnf)
      | (refine And.intro (fun _ => ?_) (fun _ => ?_) <;> conv => whnf)))
    all_goals try (refine Or.inl ?_; conv => whnf)
    repeat (any_goals (first
      | exact True.intro
      | (refine And.intro (fun _ => ?_) tf; conv => whnf)
      | (refine And.intro ft (fun _ => ?_); conv => whnf)
      | (refine And.intro (by kernel_rfl) ?_; conv => whnf)
      | (refine And.intro (by decide) ?_; conv => whnf)
      | (refine And.intro (fun _ => ?_) (fun h => absurd h (by decide)); conv => whnf)
      | (refine And.intro (fun h => absurd h (by decide)) (fun _ => ?_); conv => whnf)
      | (refine And.intro (fun _ => ?_) (fun _ => ?_) <;> conv => whnf)
      | (refine ⟨_, _, alive_sat.pu rfl rfl, ?_⟩; conv => whnf)))
    all_goals try (refine Or.inl ?_; conv => whnf)
    repeat (any_goals (first
      | exact True.intro
      | (refine And.intro (fun _ => ?_) tf; conv => whnf)
      | (refine And.intro ft (fun _ => ?_); conv => whnf)
      | (refine And.intro (by kernel_rfl) ?_; conv => whnf)
      | (refine And.intro (by decide) ?_; conv => whnf)
      | (refine And.intro (fun _ => ?_) (fun h => absurd h (by decide)); conv => whnf)
      | (refine And.intro (fun h => absurd h (by decide)) (fun _ => ?_); conv => whnf)
      | (refine And.intro (fun _ => ?_) (fun _ => ?_) <;> conv => whnf)))
    all_goals try (exfalso; simp only [decide_eq_true_eq, decide_eq_false_iff_not, Bool.not_eq_true', Bool.not_eq_false', Bool.not_eq_true, Bool.not_eq_false, beq_iff_eq, bne_iff_ne, beq_eq_false_iff_ne, bne_eq_false_iff_eq, ne_eq, Decidable.not_not] at *; first | omega | contradiction | (simp_all; done) | (simp_all; omega))
    all_goals try (refine Or.inl ?_; conv => whnf)
    repeat (any_goals (first
      | exact True.intro
      | (refine And.intro (fun _ => ?_) tf; conv => whnf)
      | (refine And.intro ft (fun _ => ?_); conv => whnf)
      | (refine And.intro (by kernel_rfl) ?_; conv => whnf)
      | (refine And.intro (by decide) ?_; conv => whnf)
      | (refine And.intro (fun _ => ?_) (fun h => absurd h (by decide)); conv => whnf)
      | (refine And.intro (fun h => absurd h (by decide)) (fun _ => ?_); conv => whnf)
      | (refine And.intro (fun _ => ?_) (fun _ => ?_) <;> conv => whnf)
      | (refine ⟨_, _, n1.nw rfl, ?_⟩; conv => whnf)))
    all_goals try (refine Or.inl ?_; conv => whnf)
    repeat (any_goals (first
      | exact True.intro
      | (refine And.intro (fun _ => ?_) tf; conv => whnf)
      | (refine And.intro ft (fun _ => ?_); conv => whnf)
      | (refine And.intro (by kernel_rfl) ?_; conv => whnf)
      | (refine And.intro (by decide) ?_; conv => whnf)
      | (refine And.intro (fun _ => ?_) (fun h => absurd h (by decide)); conv => whnf)
      | (refine And.intro (fun h => absurd h (by decide)) (fun _ => ?_); conv => whnf)
      | (refine And.intro (fun _ => ?_) (fun _ => ?_) <;> conv => whnf)
      | (refine ⟨_, _, eqP (by kernel_rfl), ?_⟩; conv => whnf)))
    all_goals try (exfalso; simp only [decide_eq_true_eq, decide_eq_false_iff_not, Bool.not_eq_true', Bool.not_eq_false', Bool.not_eq_true, Bool.not_eq_false, beq_iff_eq, bne_iff_ne, beq_eq_false_iff_ne, bne_eq_false_iff_eq, ne_eq, Decidable.not_not] at *; first | omega | contradiction | (simp_all; done) | (simp_all; omega))
    all_goals try (refine Or.inl ?_; conv => whnf)
    repeat (any_goals (first
      | exact True.intro
      | (refine And.intro (fun _ => ?_) tf; conv => whnf)
      | (refine And.intro ft (fun _ => ?_); conv => whnf)
      | (refine And.intro (by kernel_rfl) ?_; conv => whnf)
      | (refine And.intro (by decide) ?_; conv => whnf)
      | (refine And.intro (fun _ => ?_) (fun h => absurd h (by decide)); conv => whnf)
      | (refine And.intro (fun h => absurd h (by decide)) (fun _ => ?_); conv => whnf)
      | (refine And.intro (fun _ => ?_) (fun _ => ?_) <;> conv => whnf)))
    refine ⟨Nat × CSt, fun y => y.1 ≤ l.length ∧ CInv y.2 rho trust y.1, fun y => ([(11, iA y.1), (9, iA y.2.streak), (10, bA y.2.held), (7, .ptr 0 0), (1, iA trust), (2, .d (.sl 4 (l.map sR)))], cH y.2), fun y => l.length - y.1, ⟨(0, ⟨rho, trust, false, 0, []⟩), ⟨Nat.zero_le _, rfl, rfl, Int.le_refl _, Int.le_refl _, Nat.zero_le _, show (0 : Int) ≤ 0 + 1 by omega⟩, ?_⟩, ?_⟩
    · all_goals refine ⟨[], ?_⟩
      repeat (any_goals (first | exact True.intro | exact rfl | with_reducible_and_instances rfl | exact (by kernel_rfl) | refine And.intro ?_ ?_))
      all_goals conv => whnf
    rintro ⟨k, s⟩ ⟨hk, I⟩
    have hk : k ≤ l.length := hk
    have I : CInv s rho trust k := I
    conv => whnf
    by_cases hlt : k < l.length
    · have hx : l[k]? = some l[k] := List.getElem?_eq_getElem hlt
      generalize l[k] = x at hx
      have hI := I
      obtain ⟨r1, r2, s0, s1, n8, ns⟩ := I
      have d := add_sat s x n8 (by omega)
      have hw := addC_ways s x hI (by omega)
      generalize hq : addC s x = q at d hw
      obtain ⟨s', e⟩ := q
      have d : Sat Try.prog 15 [.ptr 0 0, sA x] (cH s) (iA e) (cH2 s') := d
      have hI' : CInv s' rho trust (k + 1) := by
        rcases hw with ⟨_, h⟩ | ⟨_, _, _, _, h⟩ | ⟨_, _, _, _, h⟩
        · injection h with h _; subst h; exact ⟨r1, r2, s0, by omega, n8, ns⟩
        · exact h
        · exact h
      have hw : (okS x = false ∧ e = 10 ∧ s'.streak = s.streak ∧ s'.held = s.held) ∨ (okS x = true ∧ e = 0 ∧ s'.streak = s.streak + 1 ∧ s'.held = (s.held && decide (s.streak + 1 < trust))) ∨ (okS x = true ∧ e = 21 ∧ s'.streak = 0 ∧ s'.held = true) := by
        rcases hw with ⟨h1, h⟩ | ⟨h1, h2, h3, h4, _⟩ | ⟨h1, h2, h3, h4, _⟩
        · injection h with h h'; subst h h'; exact .inl ⟨h1, rfl, rfl, rfl⟩
        · exact .inr (.inl ⟨h1, h2, h3, h4⟩)
        · exact .inr (.inr ⟨h1, h2, h3, h4⟩)
      have h8 := hI'.n8
      have hn := hI'.ns
      have hs0 := hI'.s0
      have hs1 := hI'.s1
      have hw1 : IntKind.i64.wrap (s.streak + 1) = s.streak + 1 := wi (by omega) (by omega)
      have hw2 : IntKind.i64.wrap (s.streak + 1 + 1) = s.streak + 2 := by rw [wi (by omega) (by omega)]; omega
      have hw3 : IntKind.i64.wrap (0 + 1) = 1 := by decide
      rcases hw with ⟨g1, rfl, g3, g4⟩ | ⟨g1, rfl, g3, g4⟩ | ⟨g1, rfl, g3, g4⟩
      · repeat (any_goals (first
          | exact True.intro
          | (refine Or.inl ?_; conv => whnf)
          | (refine And.intro (fun _ => ?_) tf; conv => whnf)
          | (refine And.intro ft (fun _ => ?_); conv => whnf)
          | (refine And.intro (by kernel_rfl) ?_; conv => whnf)
          | (refine And.intro (by decide) ?_; conv => whnf)
          | (refine And.intro (fun _ => ?_) (fun h => absurd h (by decide)); conv => whnf)
          | (refine And.intro (fun h => absurd h (by decide)) (fun _ => ?_); conv => whnf)
          | (refine And.intro (fun _ => ?_) (fun h => absurd h (by simpa using hlt)); conv => whnf)
          | (refine ⟨k, _, rfl, map_get hx, ?_⟩; conv => whnf)
          | (refine And.intro (fun _ => ?_) (fun _ => ?_) <;> conv => whnf)
          | (refine ⟨_, _, d.at2 0 1 rfl rfl rfl rfl rfl, ?_⟩; conv => whnf)
          | (refine ⟨_, _, (right_sat x).pu rfl rfl, ?_⟩; conv => whnf)
          | (refine ⟨_, _, (streak_sat s').at2 0 2 rfl rfl rfl rfl rfl, ?_⟩; conv => whnf)
          | (refine ⟨_, _, (held_sat s').at2 0 2 rfl rfl rfl rfl rfl, ?_⟩; conv => whnf)
          | (refine ⟨_, _, neB (by kernel_rfl), ?_⟩; conv => whnf)
          | (refine ⟨_, _, (samples_sat s' h8).at2 0 2 rfl rfl rfl rfl rfl, ?_⟩; conv => whnf)))
        all_goals try (exfalso; simp only [decide_eq_true_eq, decide_eq_false_iff_not, Bool.not_eq_true', Bool.not_eq_false', Bool.not_eq_true, Bool.not_eq_false, beq_iff_eq, bne_iff_ne, beq_eq_false_iff_ne, bne_eq_false_iff_eq, ne_eq, Decidable.not_not] at *; first | omega | contradiction | (simp_all; done) | (simp_all; omega))
        all_goals try (exfalso; simp only [hw1, hw2, hw3, g3, g4, List.length_map, decide_eq_true_eq, decide_eq_false_iff_not, bne_iff_ne, ne_eq, gt_iff_lt] at *; omega)
        all_goals try (exfalso; simp_all; done)
        all_goals refine ⟨(k + 1, s'), ⟨hlt, hI'⟩, show l.length - (k + 1) < l.length - k by omega, ?_⟩
        all_goals refine ⟨[(1, 2)], ?_⟩
        repeat (any_goals (first | exact True.intro | exact rfl | with_reducible_and_instances rfl | exact (by kernel_rfl) | refine And.intro ?_ ?_))
        all_goals conv => whnf
        all_goals first | exact wk1 (by omega) | (simp_all; done)
      · repeat (any_goals (first
          | exact True.intro
          | (refine Or.inl ?_; conv => whnf)
          | (refine And.intro (fun _ => ?_) tf; conv => whnf)
          | (refine And.intro ft (fun _ => ?_); conv => whnf)
          | (refine And.intro (by kernel_rfl) ?_; conv => whnf)
          | (refine And.intro (by decide) ?_; conv => whnf)
          | (refine And.intro (fun _ => ?_) (fun h => absurd h (by decide)); conv => whnf)
          | (refine And.intro (fun h => absurd h (by decide)) (fun _ => ?_); conv => whnf)
          | (refine And.intro (fun _ => ?_) (fun h => absurd h (by simpa using hlt)); conv => whnf)
          | (refine ⟨k, _, rfl, map_get hx, ?_⟩; conv => whnf)
          | (refine And.intro (fun _ => ?_) (fun _ => ?_) <;> conv => whnf)
          | (refine ⟨_, _, d.at2 0 1 rfl rfl rfl rfl rfl, ?_⟩; conv => whnf)
          | (refine ⟨_, _, (right_sat x).pu rfl rfl, ?_⟩; conv => whnf)
          | (refine ⟨_, _, (streak_sat s').at2 0 2 rfl rfl rfl rfl rfl, ?_⟩; conv => whnf)
          | (refine ⟨_, _, (held_sat s').at2 0 2 rfl rfl rfl rfl rfl, ?_⟩; conv => whnf)
          | (refine ⟨_, _, neB (by kernel_rfl), ?_⟩; conv => whnf)
          | (refine ⟨_, _, (samples_sat s' h8).at2 0 2 rfl rfl rfl rfl rfl, ?_⟩; conv => whnf)))
        all_goals try (exfalso; simp only [decide_eq_true_eq, decide_eq_false_iff_not, Bool.not_eq_true', Bool.not_eq_false', Bool.not_eq_true, Bool.not_eq_false, beq_iff_eq, bne_iff_ne, beq_eq_false_iff_ne, bne_eq_false_iff_eq, ne_eq, Decidable.not_not] at *; first | omega | contradiction | (simp_all; done) | (simp_all; omega))
        all_goals try (exfalso; simp only [hw1, hw2, hw3, g3, g4, List.length_map, decide_eq_true_eq, decide_eq_false_iff_not, bne_iff_ne, ne_eq, gt_iff_lt] at *; omega)
        all_goals try (exfalso; simp_all; done)
        all_goals refine ⟨(k + 1, s'), ⟨hlt, hI'⟩, show l.length - (k + 1) < l.length - k by omega, ?_⟩
        all_goals refine ⟨[(1, 2)], ?_⟩
        repeat (any_goals (first | exact True.intro | exact rfl | with_reducible_and_instances rfl | exact (by kernel_rfl) | refine And.intro ?_ ?_))
        all_goals conv => whnf
        all_goals first | exact wk1 (by omega) | (simp_all; done)
      · repeat (any_goals (first
          | exact True.intro
          | (refine Or.inl ?_; conv => whnf)
          | (refine And.intro (fun _ => ?_) tf; conv => whnf)
          | (refine And.intro ft (fun _ => ?_); conv => whnf)
          | (refine And.intro (by kernel_rfl) ?_; conv => whnf)
          | (refine And.intro (by decide) ?_; conv => whnf)
          | (refine And.intro (fun _ => ?_) (fun h => absurd h (by decide)); conv => whnf)
          | (refine And.intro (fun h => absurd h (by decide)) (fun _ => ?_); conv => whnf)
          | (refine And.intro (fun _ => ?_) (fun h => absurd h (by simpa using hlt)); conv => whnf)
          | (refine ⟨k, _, rfl, map_get hx, ?_⟩; conv => whnf)
          | (refine And.intro (fun _ => ?_) (fun _ => ?_) <;> conv => whnf)
          | (refine ⟨_, _, d.at2 0 1 rfl rfl rfl rfl rfl, ?_⟩; conv => whnf)
          | (refine ⟨_, _, (right_sat x).pu rfl rfl, ?_⟩; conv => whnf)
          | (refine ⟨_, _, (streak_sat s').at2 0 2 rfl rfl rfl rfl rfl, ?_⟩; conv => whnf)
          | (refine ⟨_, _, (held_sat s').at2 0 2 rfl rfl rfl rfl rfl, ?_⟩; conv => whnf)
          | (refine ⟨_, _, neB (by kernel_rfl), ?_⟩; conv => whnf)
          | (refine ⟨_, _, (samples_sat s' h8).at2 0 2 rfl rfl rfl rfl rfl, ?_⟩; conv => whnf)))
        all_goals try (exfalso; simp only [decide_eq_true_eq, decide_eq_false_iff_not, Bool.not_eq_true', Bool.not_eq_false', Bool.not_eq_true, Bool.not_eq_false, beq_iff_eq, bne_iff_ne, beq_eq_false_iff_ne, bne_eq_false_iff_eq, ne_eq, Decidable.not_not] at *; first | omega | contradiction | (simp_all; done) | (simp_all; omega))
        all_goals try (exfalso; simp only [hw1, hw2, hw3, g3, g4, List.length_map, decide_eq_true_eq, decide_eq_false_iff_not, bne_iff_ne, ne_eq, gt_iff_lt] at *; omega)
        all_goals try (exfalso; simp_all; done)
        all_goals refine ⟨(k + 1, s'), ⟨hlt, hI'⟩, show l.length - (k + 1) < l.length - k by omega, ?_⟩
        all_goals refine ⟨[(1, 2)], ?_⟩
        repeat (any_goals (first | exact True.intro | exact rfl | with_reducible_and_instances rfl | exact (by kernel_rfl) | refine And.intro ?_ ?_))
        all_goals conv => whnf
        all_goals first | exact wk1 (by omega) | (simp_all; done)
    · repeat (any_goals (first
        | exact True.intro
        | (refine Or.inl ?_; conv => whnf)
        | (refine And.intro (fun _ => ?_) tf; conv => whnf)
        | (refine And.intro ft (fun _ => ?_); conv => whnf)
        | (refine And.intro (by kernel_rfl) ?_; conv => whnf)
        | (refine And.intro (by decide) ?_; conv => whnf)
        | (refine And.intro (fun _ => ?_) (fun h => absurd h (by decide)); conv => whnf)
        | (refine And.intro (fun h => absurd h (by decide)) (fun _ => ?_); conv => whnf)
        | (refine And.intro (fun h => absurd h (by simpa using hlt)) (fun _ => ?_); conv => whnf)
        | (refine And.intro (fun _ => ?_) (fun _ => ?_) <;> conv => whnf)))
      all_goals try (exfalso; simp only [decide_eq_true_eq, decide_eq_false_iff_not, Bool.not_eq_true', Bool.not_eq_false', Bool.not_eq_true, Bool.not_eq_false, beq_iff_eq, bne_iff_ne, beq_eq_false_iff_ne, bne_eq_false_iff_eq, ne_eq, Decidable.not_not] at *; first | omega | contradiction | (simp_all; done) | (simp_all; omega))
      all_goals refine ⟨[], ?_⟩
      repeat (any_goals (first | exact True.intro | exact rfl | with_reducible_and_instances rfl | exact (by kernel_rfl) | refine And.intro ?_ ?_))
      all_goals conv => whnf
  · have n1 := new_err rho trust (by simp at hok; rcases h : okRate rho with _ | _ <;> simp_all; omega)
    refine sat_of_vc (T := tiOf Try.prog) (E := E0) Try.func5 rfl rfl hE0 hm0 rfl ?_
    conv => whnf
    repeat (any_goals (first
      | exact True.intro
      | (refine Or.inl ?_; conv => whnf)
      | (refine And.intro (fun _ => ?_) tf; conv => whnf)
      | (refine And.intro ft (fun _ => ?_); conv => whnf)
      | (refine And.intro (by kernel_rfl) ?_; conv => whnf)
      | (refine And.intro (by decide) ?_; conv => whnf)
      | (refine And.intro (fun _ => ?_) (fun h => absurd h (by decide)); conv => whnf)
      | (refine And.intro (fun h => absurd h (by decide)) (fun _ => ?_); conv => whnf)
      | (refine And.intro (fun _ => ?_) (fun _ => ?_) <;> conv => whnf)
      | (refine ⟨_, _, alive_sat.pu rfl rfl, ?_⟩; conv => whnf)
      | (refine ⟨_, _, n1.pu rfl rfl, ?_⟩; conv => whnf)
      | (refine ⟨_, _, eqN (by kernel_rfl), ?_⟩; conv => whnf)))
    all_goals try (exfalso; simp only [decide_eq_true_eq, decide_eq_false_iff_not, Bool.not_eq_true', Bool.not_eq_false', Bool.not_eq_true, Bool.not_eq_false, beq_iff_eq, bne_iff_ne, beq_eq_false_iff_ne, bne_eq_false_iff_eq, ne_eq, Decidable.not_not] at *; first | omega | contradiction | (simp_all; done) | (simp_all; omega))
    all_goals refine ⟨[], ?_⟩
    repeat (any_goals (first | exact True.intro | exact rfl | with_reducible_and_instances rfl | exact (by kernel_rfl) | refine And.intro ?_ ?_))
    all_goals conv => whnf
theorem trusts_law (H : Type) (enc : TypeId × Value → H) : LawWalk H enc Try.prog 5 Try.f5 :=
  lawWalk_of_sat (by kernel_rfl) fun args h => by
    obtain ⟨a, _, rfl, h1, h⟩ := h
    obtain ⟨b, _, rfl, h2, h⟩ := h
    obtain ⟨x, _, rfl, h3, h⟩ := h
    obtain rfl := h
    obtain ⟨a, rfl, _⟩ := ty_i64 h1 Try.underlying2
    obtain ⟨b, rfl, _⟩ := ty_i64 h2 Try.underlying3
    obtain ⟨l, rfl, _⟩ := ty_smps h3
    exact trusts_sat a b l
end Go.Proofs.Ytgidaifoiljgoaa
/- Plain laws of a clock's interval. -/
namespace Go.Proofs.Ytgidaifoiljgoaa
set_option linter.unusedSimpArgs false
set_option linter.unusedVariables false
open Go.RowKit
theorem keep_mem {l : List Smp} {x y : Smp} (h : y ∈ keepC (l ++ [x])) : y ∈ l ∨ y = x := by
  have : y ∈ l ++ [x] := by
    unfold keepC at h
    split at h
    · exact List.mem_of_mem_drop h
    · exact h
  simpa using this
theorem addC_okS (s : CSt) (x : Smp) (h : ∀ y ∈ s.list, okS y = true) : ∀ y ∈ (addC s x).1.list, okS y = true := by
  unfold addC
  by_cases hx : okS x = false
  · rw [if_pos hx]; exact h
  · rw [if_neg hx]
    have hx : okS x = true := by simpa using hx
    intro y hy
    simp only at hy
    split at hy
    · rcases keep_mem hy with q | q
      · exact h y q
      · subst q; exact hx
    · simp only at hy
      split at hy
      · simp at hy; subst hy; exact hx
      · simp at hy
theorem atR_code {s : Smp} {a rho : Int} (h : okS s = true) (h0 : (atR s a rho).2 ≠ 0) : (atR s a rho).2 = 13 ∨ (atR s a rho).2 = 11 := by
  unfold atR at h0 ⊢
  rw [if_neg (by simp [h])] at h0 ⊢
  split
  · exact .inr rfl
  · split
    · exact .inl rfl
    · rename_i h1 h2; rw [if_neg h1, if_neg h2] at h0; exact absurd rfl h0
theorem atC_bad {s : CSt} {stamp : Int} {k : Nat} {x : Smp} (hok : ∀ y ∈ s.list, okS y = true) (hf : (s.list.take k).find? (fun x => decide ((atR x stamp s.rho).2 ≠ 0)) = none) (hx : s.list[k]? = some x) (h0 : (atR x stamp s.rho).2 ≠ 0) :
    (atC s stamp).2 = 13 ∨ (atC s stamp).2 = 11 := by
  have hne : s.list ≠ [] := fun e => by rw [e] at hx; simp at hx
  unfold atC
  rw [if_neg hne]
  by_cases ht : isT stamp = false
  · rw [if_pos ht]; exact .inr rfl
  · rw [if_neg ht, find_hit hf hx (by simpa using h0)]
    exact atR_code (hok x (List.mem_of_getElem? hx)) h0
theorem atC_good {s : CSt} {stamp : Int} (hne : s.list ≠ []) (hf : s.list.find? (fun x => decide ((atR x stamp s.rho).2 ≠ 0)) = none) : atC s stamp = meetR (s.list.map fun x => (atR x stamp s.rho).1) := by
  unfold atC
  rw [if_neg hne]
  by_cases ht : isT stamp = false
  · exfalso
    cases hl : s.list with
    | nil => exact hne hl
    | cons x r =>
      rw [hl] at hf
      have := List.find?_eq_none.1 hf x (List.mem_cons_self ..)
      simp at this
      have := (atR_out this).2.1
      rw [ht] at this; cases this
  · rw [if_neg ht, hf]
theorem within_snoc {gs : List (Int × Int)} {x : Int × Int} (h : (meetR gs).2 = 0) (h' : (meetR (gs ++ [x])).2 = 0) : withB (meetR (gs ++ [x])).1 (meetR gs).1 = true := by
  obtain ⟨_, _, e1⟩ := meetR_ok h
  obtain ⟨_, h2, e2⟩ := meetR_ok h'
  unfold withB
  rw [e2, h2, e1, meetL_snoc]
  simp
  constructor <;> omega
theorem atC_zero {s : CSt} {stamp : Int} (h : (atC s stamp).2 = 0) : s.list ≠ [] ∧ isT stamp = true ∧ s.list.find? (fun x => decide ((atR x stamp s.rho).2 ≠ 0)) = none ∧ atC s stamp = meetR (s.list.map fun x => (atR x stamp s.rho).1) := by
  unfold atC at h ⊢
  by_cases h1 : s.list = []
  · rw [if_pos h1] at h; cases h
  · rw [if_neg h1] at h ⊢
    by_cases h2 : isT stamp = false
    · rw [if_pos h2] at h; cases h
    · rw [if_neg h2] at h ⊢
      cases hf : s.list.find? (fun x => decide ((atR x stamp s.rho).2 ≠ 0)) with
      | some x =>
        rw [hf] at h
        have := List.find?_some hf
        simp at this
        exact absurd h this
      | none => exact ⟨h1, by simpa using h2, rfl, rfl⟩
theorem meets_last {s : CSt} {x : Smp} {stamp : Int} (h : (atC s stamp).2 = 0) (ha : (addC s x).2 = 0) (hi : (atC (addC s x).1 stamp).2 = 0) (h8 : s.list.length ≤ 8) (hn : s.list.length ≠ 8) : withB (atC (addC s x).1 stamp).1 (atC s stamp).1 = true := by
  obtain ⟨_, _, _, e1⟩ := atC_zero h
  obtain ⟨_, _, _, e2⟩ := atC_zero hi
  have hl : (addC s x).1.list = s.list ++ [x] ∧ (addC s x).1.rho = s.rho := by
    unfold addC at ha ⊢
    by_cases hx : okS x = false
    · rw [if_pos hx] at ha; cases ha
    · rw [if_neg hx] at ha ⊢
      simp only at ha ⊢
      split
      · refine ⟨?_, rfl⟩
        show keepC (s.list ++ [x]) = _
        unfold keepC
        rw [if_neg (by simp; omega)]
      · rename_i hg; rw [if_neg hg] at ha; cases ha
  rw [e1] at h ⊢
  rw [e2] at hi ⊢
  rw [hl.1, hl.2, List.map_append] at hi ⊢
  exact within_snoc h hi
end Go.Proofs.Ytgidaifoiljgoaa
