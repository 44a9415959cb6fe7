/- Parts SwM, Laid of the proof, put together. -/
import Derived.Test.YtefidbifgilekaaM8
import Derived.Test.YtefidbifgilekaaChecked
import Derived.Test.YtefidbifgilekaaRows
/- SweepTurns, by conditions. -/
namespace Go.Proofs.Ytefidbifgilekaa
set_option linter.unusedSimpArgs false
set_option linter.unusedVariables false
open Go.RowKit
set_option maxRecDepth 100000
theorem bestR_of {gs : List (Int × Int)} {m : Nat} {x : Int} (h : IsBest gs m x) (hm : 0 < m) : bestR gs = ((x, bestH x gs), m) := by
  obtain ⟨e1, e2⟩ := h.uniq (bestS_is gs)
  have e2 := e2 hm
  unfold bestR
  rw [if_neg (by omega), ← e1, ← e2]
theorem bestR_none {gs : List (Int × Int)} (h : ∀ y, votesN y gs = 0) : bestR gs = ((0, 0), 0) := by
  have hb := bestS_is gs
  unfold bestR
  rw [if_pos]
  rcases Nat.eq_zero_or_pos (bestS gs).1 with q | q
  · exact q
  · have := hb.at_ q; have := h (bestS gs).2; omega
theorem votes_perm {gs hs : List (Int × Int)} (h : gs.Perm hs) (y : Int) : votesN y gs = votesN y hs := h.countP_eq _
theorem best_perm {gs hs : List (Int × Int)} (h : gs.Perm hs) {m : Nat} {x : Int} (hb : IsBest gs m x) : IsBest hs m x :=
  ⟨fun y => by rw [← votes_perm h]; exact hb.most y, fun hm => by rw [← votes_perm h]; exact hb.at_ hm, fun hm y hy => hb.least hm y (by rw [votes_perm h]; exact hy)⟩
theorem hstep_comm (x h : Int) (a b : Int × Int) : hstep x (hstep x h a) b = hstep x (hstep x h b) a := by
  unfold hstep
  split <;> split <;> omega
theorem bestH_perm {gs hs : List (Int × Int)} (h : gs.Perm hs) (x : Int) : bestH x gs = bestH x hs :=
  h.foldl_eq' (fun a _ b _ z => hstep_comm x z a b) _
theorem bestR_perm {gs hs : List (Int × Int)} (h : gs.Perm hs) : bestR gs = bestR hs := by
  have hb := bestS_is gs
  rcases Nat.eq_zero_or_pos (bestS gs).1 with q | q
  · rw [bestR_none fun y => by have := hb.most y; omega, bestR_none fun y => by have := hb.most y; rw [votes_perm h] at this; omega]
  · rw [bestR_of hb q, bestR_of (best_perm h hb) q, bestH_perm h]
theorem valid_perm {gs hs : List (Int × Int)} (h : gs.Perm hs) : validN gs = validN hs := h.countP_eq _
theorem without_perm {gs hs : List (Int × Int)} (h : gs.Perm hs) (f : Int) : withoutP f gs = withoutP f hs := by
  unfold withoutP
  rw [← valid_perm h]
  by_cases q : f < 0 ∨ (validN gs : Int) ≤ f
  · rw [if_pos q, if_pos q]
  · rw [if_neg q, if_neg q]
    have h1 := outE_is gs f (by omega)
    have h2 := outE_is hs f (by rw [← valid_perm h]; omega)
    rw [← valid_perm h] at h2
    have h3 : IsFar gs ((validN gs : Int) - f) (outE f hs) := by
      refine ⟨?_, fun r => ?_, fun r => ?_, fun r y hy => h2.far r y (by rw [← votes_perm h]; exact hy)⟩
      · rw [h2.is]
        constructor
        · rintro ⟨y, hy⟩; exact ⟨y, by rw [votes_perm h]; exact hy⟩
        · rintro ⟨y, hy⟩; exact ⟨y, by rw [← votes_perm h]; exact hy⟩
      · rw [votes_perm h]; exact h2.lo r
      · rw [votes_perm h]; exact h2.hi r
    obtain ⟨e1, e2⟩ := h1.uniq h3
    rw [← e1]
    by_cases r : (outE f gs).2 = true
    · rw [if_pos r, if_pos r, e2 r]
    · rw [if_neg r, if_neg r]
theorem agree_perm {gs hs : List (Int × Int)} (h : gs.Perm hs) (hin : inGs gs) : agreeB gs = agreeB hs := by
  rw [← agree_same gs fun g hg => (hin g hg).1, ← agree_same hs fun g hg => (hin g (h.mem_iff.2 hg)).1]
  unfold agreeRef
  rw [bestR_perm h, h.length_eq]
abbrev fullG : Int × Int := (-9223372036854775808, 9223372036854775807)
theorem votes_full (gs : List (Int × Int)) (y : Int) : votesN y (gs ++ [fullG]) = votesN y gs + if -9223372036854775808 ≤ y ∧ y ≤ 9223372036854775807 then 1 else 0 := by
  unfold votesN
  rw [List.countP_append]
  congr 1
  by_cases h : -9223372036854775808 ≤ y ∧ y ≤ 9223372036854775807 <;> simp [hasG, h]
theorem best_full {gs : List (Int × Int)} (hin : inGs gs) : (bestR (gs ++ [fullG])).2 = (bestR gs).2 + 1 ∧ ((bestR gs).2 ≠ 0 → (bestR (gs ++ [fullG])).1 = (bestR gs).1) := by
  have hb := bestS_is gs
  rcases Nat.eq_zero_or_pos (bestS gs).1 with q | q
  · have h0 : ∀ y, votesN y gs = 0 := fun y => by have := hb.most y; omega
    rw [bestR_none h0]
    have hn : IsBest (gs ++ [fullG]) 1 (-9223372036854775808) := by
      refine ⟨fun y => ?_, fun _ => ?_, fun _ y hy => ?_⟩
      · rw [votes_full, h0]; split <;> omega
      · rw [votes_full, h0, if_pos (by omega)]
      · rw [votes_full, h0] at hy
        split at hy
        · rename_i h; exact h.1
        · omega
    rw [bestR_of hn (by omega)]
    exact ⟨rfl, fun h => absurd rfl h⟩
  · obtain ⟨_, _, hx⟩ := meet_best hin hb q
    have hn : IsBest (gs ++ [fullG]) ((bestS gs).1 + 1) (bestS gs).2 := by
      refine ⟨fun y => ?_, fun _ => ?_, fun _ y hy => ?_⟩
      · rw [votes_full]; have := hb.most y; split <;> omega
      · rw [votes_full, if_pos (show -9223372036854775808 ≤ (bestS gs).2 ∧ (bestS gs).2 ≤ 9223372036854775807 from hx), hb.at_ q]
      · rw [votes_full] at hy
        have := hb.most y
        split at hy
        · exact hb.least q y (by omega)
        · omega
    rw [bestR_of hn (by omega), bestR_of hb q]
    refine ⟨rfl, fun _ => ?_⟩
    have hh : bestH (bestS gs).2 (gs ++ [fullG]) = bestH (bestS gs).2 gs := by
      have := (hstep_le (bestS gs).2 gs 9223372036854775807).1
      unfold bestH
      rw [List.foldl_append]
      generalize gs.foldl (hstep (bestS gs).2) 9223372036854775807 = z at *
      show hstep _ z fullG = z
      unfold hstep
      split
      · show min z 9223372036854775807 = z; omega
      · rfl
    rw [hh]
set_option maxHeartbeats 1000000 in
theorem turnsL_sat (gs : List (Int × Int)) (turn f : Int) (hin : inGs gs) : Sat Try.prog 7 [.d (.sl 2 (gs.map gR)), iA turn, iA f] [] (bA true) [] := by
  have hm : (gs.map gR).length = gs.length := List.length_map _
  by_cases h100 : 100 < gs.length ∨ turn < 0 ∨ (gs.length : Int) < turn
  · refine sat_of_vc (T := tiOf Try.prog) (E := E0) Try.func7 rfl rfl hE0 hm0 rfl ?_
    conv => whnf
    repeat (any_goals (first
      | exact True.intro
      | (refine And.intro (fun _ => ?_) tf; conv => whnf)
      | (refine And.intro ft (fun _ => ?_); conv => whnf)
      | (refine And.intro (by kernel_rfl) ?_; conv => whnf)
      | (refine And.intro (by decide) ?_; conv => whnf)
      | (refine And.intro (fun _ => ?_) (fun h => absurd h (by decide)); conv => whnf)
      | (refine And.intro (fun h => absurd h (by decide)) (fun _ => ?_); conv => whnf)
      | (refine And.intro (fun _ => ?_) (fun _ => ?_) <;> conv => whnf)
      | (refine ⟨_, _, alive17_sat.pu rfl rfl, ?_⟩; conv => whnf)))
    all_goals try (exfalso; simp only [decide_eq_true_eq, decide_eq_false_iff_not, Bool.not_eq_true', Bool.not_eq_false', Bool.not_eq_true, Bool.not_eq_false, beq_iff_eq, bne_iff_ne, beq_eq_false_iff_ne, bne_eq_false_iff_eq, ne_eq, Decidable.not_not] at *; first | omega | contradiction | (simp_all; done) | (simp_all; omega))
    all_goals try (refine Or.inl ?_; conv => whnf)
    repeat (any_goals (first
      | exact True.intro
      | (refine And.intro (fun _ => ?_) tf; conv => whnf)
      | (refine And.intro ft (fun _ => ?_); conv => whnf)
      | (refine And.intro (by kernel_rfl) ?_; conv => whnf)
      | (refine And.intro (by decide) ?_; conv => whnf)
      | (refine And.intro (fun _ => ?_) (fun h => absurd h (by decide)); conv => whnf)
      | (refine And.intro (fun h => absurd h (by decide)) (fun _ => ?_); conv => whnf)
      | (refine And.intro (fun _ => ?_) (fun _ => ?_) <;> conv => whnf)
      | (refine ⟨_, _, alive17_sat.pu rfl rfl, ?_⟩; conv => whnf)))
    all_goals try (exfalso; simp only [decide_eq_true_eq, decide_eq_false_iff_not, Bool.not_eq_true', Bool.not_eq_false', Bool.not_eq_true, Bool.not_eq_false, beq_iff_eq, bne_iff_ne, beq_eq_false_iff_ne, bne_eq_false_iff_eq, ne_eq, Decidable.not_not] at *; first | omega | contradiction | (simp_all; done) | (simp_all; omega))
    all_goals try (refine Or.inl ?_; conv => whnf)
    repeat (any_goals (first
      | exact True.intro
      | (refine And.intro (fun _ => ?_) tf; conv => whnf)
      | (refine And.intro ft (fun _ => ?_); conv => whnf)
      | (refine And.intro (by kernel_rfl) ?_; conv => whnf)
      | (refine And.intro (by decide) ?_; conv => whnf)
      | (refine And.intro (fun _ => ?_) (fun h => absurd h (by decide)); conv => whnf)
      | (refine And.intro (fun h => absurd h (by decide)) (fun _ => ?_); conv => whnf)
      | (refine And.intro (fun _ => ?_) (fun _ => ?_) <;> conv => whnf)
      | (refine ⟨_, _, alive17_sat.pu rfl rfl, ?_⟩; conv => whnf)))
    all_goals try (exfalso; simp only [decide_eq_true_eq, decide_eq_false_iff_not, Bool.not_eq_true', Bool.not_eq_false', Bool.not_eq_true, Bool.not_eq_false, beq_iff_eq, bne_iff_ne, beq_eq_false_iff_ne, bne_eq_false_iff_eq, ne_eq, Decidable.not_not] at *; first | omega | contradiction | (simp_all; done) | (simp_all; omega))
    all_goals refine ⟨[], ?_⟩
    repeat (any_goals (first | exact True.intro | exact rfl | with_reducible_and_instances rfl | exact (by kernel_rfl) | refine And.intro ?_ ?_))
    all_goals conv => whnf
  obtain ⟨t, rfl⟩ : ∃ t : Nat, turn = t := ⟨turn.toNat, by omega⟩
  have hp : gs.Perm (gs.drop t ++ gs.take t) := by
    conv => lhs; rw [← List.take_append_drop t gs]
    exact List.perm_append_comm
  generalize ho : gs.drop t ++ gs.take t = os at *
  have hol : os.length = gs.length := hp.length_eq.symm
  have hino : inGs os := fun g hg => hin g (hp.mem_iff.2 hg)
  have hinf : inGs (os ++ [fullG]) := fun g hg => by
    rcases List.mem_append.1 hg with q | q
    · exact hino g q
    · rw [List.mem_singleton.1 q]; exact ⟨⟨by decide, by decide⟩, ⟨by decide, by decide⟩⟩
  have b1 := bestP_sat gs (by omega)
  rw [bestP_eq hin] at b1
  have b2 := bestP_sat os (by omega)
  rw [bestP_eq hino, ← bestR_perm hp] at b2
  have w1 := withoutP_sat f gs (by omega)
  have w2 := withoutP_sat f os (by omega)
  rw [← without_perm hp] at w2
  have a1 := agree_sat gs (by omega)
  have a2 := agree_sat os (by omega)
  rw [← agree_perm hp hin] at a2
  have b3 := bestP_sat (os ++ [fullG]) (by simp; omega)
  obtain ⟨f1, f2⟩ := best_full hino
  rw [← bestR_perm hp] at f1 f2
  rw [bestP_eq hinf, f1] at b3
  have hB : (bestR gs).2 ≤ gs.length := by
    have := bestS_is gs
    unfold bestR
    split
    · exact Nat.zero_le _
    · have := this.at_ (by omega)
      have := votes_le (bestS gs).2 gs
      show (bestS gs).1 ≤ _
      omega
  generalize bestR gs = B at *
  generalize (bestR (os ++ [fullG])).1 = C at *
  generalize withoutP f gs = W at *
  generalize agreeB gs = ag at *
  have hs : (([] : List (List D)) ++ (gs.map gR).drop t) ++ (gs.map gR).take t = os.map gR := by
    rw [← ho, List.map_append, List.map_drop, List.map_take, List.nil_append]
  have hfl : os.map gR ++ [gR fullG] = (os ++ [fullG]).map gR := by rw [List.map_append]; rfl
  rw [← hfl] at b3
  have HS := hide hs
  have HF := hide hfl
  have F2 := hide f2
  clear hin hino hinf hp f1 ho hs hfl f2
  refine sat_of_vc (T := tiOf Try.prog) (E := E0) Try.func7 rfl rfl hE0 hm0 rfl ?_
  conv => whnf
  repeat (any_goals (first
    | exact True.intro
    | (refine And.intro (fun _ => ?_) tf; conv => whnf)
    | (refine And.intro ft (fun _ => ?_); conv => whnf)
    | (refine And.intro (by kernel_rfl) ?_; conv => whnf)
    | (refine And.intro (by decide) ?_; conv => whnf)
    | (refine And.intro (fun _ => ?_) (fun h => absurd h (by decide)); conv => whnf)
    | (refine And.intro (fun h => absurd h (by decide)) (fun _ => ?_); conv => whnf)
    | (refine And.intro (fun _ => ?_) (fun _ => ?_) <;> conv => whnf)
    | (refine ⟨_, _, alive17_sat.pu rfl rfl, ?_⟩; conv => whnf)
    | (refine ⟨_, _, b1.pu rfl rfl, ?_⟩; conv => whnf)
    | (refine ⟨_, _, lendO b2 rfl rfl, ?_⟩; conv => whnf)
    | (refine ⟨_, _, w1.pu rfl rfl, ?_⟩; conv => whnf)
    | (refine ⟨_, _, lend_b w2 rfl rfl, ?_⟩; conv => whnf)
    | (refine ⟨_, _, from_d 2 16 (by kernel_rfl) (by simp; omega), ?_⟩; conv => whnf)
    | (refine ⟨_, _, upto_d 2 16 (by kernel_rfl) (by simp; omega), ?_⟩; conv => whnf)
    | (refine ⟨_, _, apd 2 16 (by kernel_rfl) rfl (by simp; omega), ?_⟩; conv => whnf)))
  all_goals try (exfalso; simp only [decide_eq_true_eq, decide_eq_false_iff_not, Bool.not_eq_true', Bool.not_eq_false', Bool.not_eq_true, Bool.not_eq_false, beq_iff_eq, bne_iff_ne, beq_eq_false_iff_ne, bne_eq_false_iff_eq, ne_eq, Decidable.not_not] at *; first | omega | contradiction | (simp_all; done) | (simp_all; omega))
  all_goals try (refine Or.inl ?_; conv => whnf)
  repeat (any_goals (first
    | exact True.intro
    | (refine And.intro (fun _ => ?_) tf; conv => whnf)
    | (refine And.intro ft (fun _ => ?_); conv => whnf)
    | (refine And.intro (by kernel_rfl) ?_; conv => whnf)
    | (refine And.intro (by decide) ?_; conv => whnf)
    | (refine And.intro (fun _ => ?_) (fun h => absurd h (by decide)); conv => whnf)
    | (refine And.intro (fun h => absurd h (by decide)) (fun _ => ?_); conv => whnf)
    | (refine And.intro (fun _ => ?_) (fun _ => ?_) <;> conv => whnf)
    | (refine ⟨_, _, alive17_sat.pu rfl rfl, ?_⟩; conv => whnf)
    | (refine ⟨_, _, b1.pu rfl rfl, ?_⟩; conv => whnf)
    | (refine ⟨_, _, lendO b2 rfl rfl, ?_⟩; conv => whnf)
    | (refine ⟨_, _, w1.pu rfl rfl, ?_⟩; conv => whnf)
    | (refine ⟨_, _, lend_b w2 rfl rfl, ?_⟩; conv => whnf)
    | (refine ⟨_, _, from_d 2 16 (by kernel_rfl) (by simp; omega), ?_⟩; conv => whnf)
    | (refine ⟨_, _, upto_d 2 16 (by kernel_rfl) (by simp; omega), ?_⟩; conv => whnf)
    | (refine ⟨_, _, apd 2 16 (by kernel_rfl) rfl (by simp; omega), ?_⟩; conv => whnf)))
  all_goals try (exfalso; simp only [decide_eq_true_eq, decide_eq_false_iff_not, Bool.not_eq_true', Bool.not_eq_false', Bool.not_eq_true, Bool.not_eq_false, beq_iff_eq, bne_iff_ne, beq_eq_false_iff_ne, bne_eq_false_iff_eq, ne_eq, Decidable.not_not] at *; first | omega | contradiction | (simp_all; done) | (simp_all; omega))
  all_goals try (refine Or.inl ?_; conv => whnf)
  repeat (any_goals (first
    | exact True.intro
    | (refine And.intro (fun _ => ?_) tf; conv => whnf)
    | (refine And.intro ft (fun _ => ?_); conv => whnf)
    | (refine And.intro (by kernel_rfl) ?_; conv => whnf)
    | (refine And.intro (by decide) ?_; conv => whnf)
    | (refine And.intro (fun _ => ?_) (fun h => absurd h (by decide)); conv => whnf)
    | (refine And.intro (fun h => absurd h (by decide)) (fun _ => ?_); conv => whnf)
    | (refine And.intro (fun _ => ?_) (fun _ => ?_) <;> conv => whnf)
    | (refine ⟨_, _, alive17_sat.pu rfl rfl, ?_⟩; conv => whnf)
    | (refine ⟨_, _, b1.pu rfl rfl, ?_⟩; conv => whnf)
    | (refine ⟨_, _, lendO b2 rfl rfl, ?_⟩; conv => whnf)
    | (refine ⟨_, _, w1.pu rfl rfl, ?_⟩; conv => whnf)
    | (refine ⟨_, _, lend_b w2 rfl rfl, ?_⟩; conv => whnf)
    | (refine ⟨_, _, from_d 2 16 (by kernel_rfl) (by simp; omega), ?_⟩; conv => whnf)
    | (refine ⟨_, _, upto_d 2 16 (by kernel_rfl) (by simp; omega), ?_⟩; conv => whnf)
    | (refine ⟨_, _, apd 2 16 (by kernel_rfl) rfl (by simp; omega), ?_⟩; conv => whnf)))
  all_goals try (exfalso; simp only [decide_eq_true_eq, decide_eq_false_iff_not, Bool.not_eq_true', Bool.not_eq_false', Bool.not_eq_true, Bool.not_eq_false, beq_iff_eq, bne_iff_ne, beq_eq_false_iff_ne, bne_eq_false_iff_eq, ne_eq, Decidable.not_not] at *; first | omega | contradiction | (simp_all; done) | (simp_all; omega))
  rw [HS.out]
  repeat (any_goals (first
    | exact True.intro
    | (refine And.intro (fun _ => ?_) tf; conv => whnf)
    | (refine And.intro ft (fun _ => ?_); conv => whnf)
    | (refine And.intro (by kernel_rfl) ?_; conv => whnf)
    | (refine And.intro (by decide) ?_; conv => whnf)
    | (refine And.intro (fun _ => ?_) (fun h => absurd h (by decide)); conv => whnf)
    | (refine And.intro (fun h => absurd h (by decide)) (fun _ => ?_); conv => whnf)
    | (refine And.intro (fun _ => ?_) (fun _ => ?_) <;> conv => whnf)
    | (refine ⟨_, _, b2.pu rfl rfl, ?_⟩; conv => whnf)
    | (refine ⟨_, _, lendO b2 rfl rfl, ?_⟩; conv => whnf)
    | (refine ⟨_, _, w1.pu rfl rfl, ?_⟩; conv => whnf)
    | (refine ⟨_, _, lend_b w2 rfl rfl, ?_⟩; conv => whnf)
    | (refine ⟨_, _, a1.pu rfl rfl, ?_⟩; conv => whnf)
    | (refine ⟨_, _, lendO a2 rfl rfl, ?_⟩; conv => whnf)
    | (refine ⟨_, _, lendO b3 rfl rfl, ?_⟩; conv => whnf)
    | (refine ⟨_, _, ap 2 16 (by kernel_rfl) rfl rfl (by simp; omega), ?_⟩; conv => whnf)
    | (refine ⟨_, _, neS (by kernel_rfl), ?_⟩; conv => whnf)
    | (refine ⟨_, _, eqS (by kernel_rfl), ?_⟩; conv => whnf)
    | (refine ⟨_, _, neB (by kernel_rfl), ?_⟩; conv => whnf)
    | (refine ⟨_, _, eqB (by kernel_rfl), ?_⟩; conv => whnf)))
  all_goals try (refine Or.inl ?_; conv => whnf)
  repeat (any_goals (first
    | exact True.intro
    | (refine And.intro (fun _ => ?_) tf; conv => whnf)
    | (refine And.intro ft (fun _ => ?_); conv => whnf)
    | (refine And.intro (by kernel_rfl) ?_; conv => whnf)
    | (refine And.intro (by decide) ?_; conv => whnf)
    | (refine And.intro (fun _ => ?_) (fun h => absurd h (by decide)); conv => whnf)
    | (refine And.intro (fun h => absurd h (by decide)) (fun _ => ?_); conv => whnf)
    | (refine And.intro (fun _ => ?_) (fun _ => ?_) <;> conv => whnf)
    | (refine ⟨_, _, b2.pu rfl rfl, ?_⟩; conv => whnf)
    | (refine ⟨_, _, lendO b2 rfl rfl, ?_⟩; conv => whnf)
    | (refine ⟨_, _, w1.pu rfl rfl, ?_⟩; conv => whnf)
    | (refine ⟨_, _, lend_b w2 rfl rfl, ?_⟩; conv => whnf)
    | (refine ⟨_, _, a1.pu rfl rfl, ?_⟩; conv => whnf)
    | (refine ⟨_, _, lendO a2 rfl rfl, ?_⟩; conv => whnf)
    | (refine ⟨_, _, lendO b3 rfl rfl, ?_⟩; conv => whnf)
    | (refine ⟨_, _, ap 2 16 (by kernel_rfl) rfl rfl (by simp; omega), ?_⟩; conv => whnf)
    | (refine ⟨_, _, neS (by kernel_rfl), ?_⟩; conv => whnf)
    | (refine ⟨_, _, eqS (by kernel_rfl), ?_⟩; conv => whnf)
    | (refine ⟨_, _, neB (by kernel_rfl), ?_⟩; conv => whnf)
    | (refine ⟨_, _, eqB (by kernel_rfl), ?_⟩; conv => whnf)))
  · exact absurd ‹(ag != ag) = true› (by simp)
  · have h : ((B.1, (B.2 : Int)).2 == 0) = false := by assumption
    have h : B.2 ≠ 0 := by simpa using h
    rw [F2.out h]
    have e : (B.1.1 == B.1.1 && B.1.2 == B.1.2) = true := by simp
    all_goals refine ⟨[], ?_⟩
    repeat (any_goals (first | exact True.intro | exact rfl | with_reducible_and_instances rfl | exact (by kernel_rfl) | refine And.intro ?_ ?_))
    all_goals conv => whnf
    exact congrArg (fun b => AV.d (D.v (.bool b))) e
  · all_goals refine ⟨[], ?_⟩
    repeat (any_goals (first | exact True.intro | exact rfl | with_reducible_and_instances rfl | exact (by kernel_rfl) | refine And.intro ?_ ?_))
    all_goals conv => whnf
  · exfalso
    have h : ((C, ((B.2 + 1 : Nat) : Int)).2 == IntKind.i64.wrap ((B.1, (B.2 : Int)).2 + 1)) = false := by assumption
    rw [wi (by show (-9223372036854775808 : Int) ≤ (B.2 : Int) + 1; omega) (by show (B.2 : Int) + 1 ≤ 9223372036854775807; omega)] at h
    simp at h
  · exact absurd ‹(W.2 != W.2) = true› (by simp)
  · exact absurd ‹(!(W.1.1 == W.1.1 && W.1.2 == W.1.2)) = true› (by simp)
  · exact absurd ‹((B.1, (B.2 : Int)).2 != (B.1, (B.2 : Int)).2) = true› (by simp)
  · exact absurd ‹(!((B.1, (B.2 : Int)).1.1 == (B.1, (B.2 : Int)).1.1 && (B.1, (B.2 : Int)).1.2 == (B.1, (B.2 : Int)).1.2)) = true› (by simp)
theorem turnsL_law (H : Type) (enc : TypeId × Value → H) : LawWalk H enc Try.prog 7 Try.f7 :=
  lawWalk_of_sat (by kernel_rfl) fun args h => by
    obtain ⟨l, _, rfl, h1, h⟩ := h
    obtain ⟨a, _, rfl, h2, h⟩ := h
    obtain ⟨b, _, rfl, h3, h⟩ := h
    obtain rfl := h
    obtain ⟨gs, rfl, hin, _⟩ := ty_gaps h1
    obtain ⟨a, rfl, ha⟩ := ty_int h2 Try.underlying3
    obtain ⟨b, rfl, hb⟩ := ty_int h3 Try.underlying3
    exact turnsL_sat gs a b hin
end Go.Proofs.Ytefidbifgilekaa
/- Two closed facts on the program that every law's statement asks. -/
namespace Go.Proofs.Ytefidbifgilekaa
set_option linter.unusedSimpArgs false
set_option linter.unusedVariables false
open Go.RowKit
theorem own : ownKnob Try.prog.godebug = none := by kernel_rfl
theorem laidOut : laidOutB Try.prog = true := by kernel_rfl
end Go.Proofs.Ytefidbifgilekaa
