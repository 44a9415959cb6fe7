/- clock.Clock: Samples, Clone, Point; a sample's Trip; gap's Mid, Within, Has, by their conditions. -/
import Derived.Test.YtgidaifoiljgoaaKc
import Derived.Test.YtgidaifoiljgoaaVcW
namespace Go.Proofs.Ytgidaifoiljgoaa
set_option linter.unusedSimpArgs false
set_option linter.unusedVariables false
open Go.RowKit
set_option maxRecDepth 100000
set_option maxHeartbeats 1000000 in
theorem clone0_any (A : Option Addr) (c : Nat) (w : World) :
    Calls Try.prog 61 #[.slice A 0 c] w fun e w' => ∃ v, e = .returned v ∧ Ow w' w.heap.size 33 4 v 0 [] ∧ Below w.heap.size w w' ∧ ∀ k, blkOf v = some k → k < w'.heap.size := by
  obtain ⟨i0, hi0, hz0, hz1, hz2⟩ := info_parts infoSz
  cases A with
  | none =>
    have hq := Lib.run_eql_slice_nil (P := Try.prog) (w := w) 22
    go_enter Try.func61, Try.ntmps61
    go_wp2_with fail
    go_ret
    exact ⟨_, rfl, Ow.nil _ _ _ _, Below.refl _ _, fun k hk => by cases hk⟩
  | some a =>
    have hq := Lib.run_eql_slice_nil (P := Try.prog) (w := w) 22
    have hlit := hide <| Ow.lit w #[] 0 (lo := w.heap.size) (size := 4) (e := 33) (Nat.le_refl _) (by simp [maxLen]) rfl
    have hap := hide <| fun w1 ty hown => run_append_zero (P := Try.prog) (w := w1) (ty := ty) (t := 22) (A := some a) (c := c) (lo := w.heap.size) (size := 4) (ee := 33) (v := .slice (some ⟨w.heap.size, 0, none⟩) 0 0) (m' := 0) (xs := []) Try.underlying22 hi0 hown
    go_enter Try.func61, Try.ntmps61
    go_wp2_with (at_builtin; refine wpList_exec rfl _ (exec_append _ _ _ rfl _ _ rfl rfl (hap.out _ _ hlit.out)) ?_)
    go_ret
    refine ⟨_, rfl, hlit.out, (Below.refl _ _).alloc (Nat.le_refl _) _, fun k hk => ?_⟩
    injection hk with hk
    subst hk
    show w.heap.size < (w.heap.push _).size
    rw [Array.size_push]; exact Nat.lt_succ_self _
theorem clone_sat (l : List Smp) (hn : l.length ≤ 1000) : Sat Try.prog 61 [.d (.sl 4 (l.map sR))] [] (.own 0) [.sl 4 (l.map sR)] := by
  intro F ρ w vals En hv
  obtain ⟨v, rfl, hv'⟩ := hv.one_out
  cases hv' with | d hv =>
    obtain ⟨A, c, rfl, h1, h2, hr⟩ := hv.sl_rd En.fb (flat_map sR_flat l)
    rw [List.length_map] at hr ⊢
    have main : Calls Try.prog 61 #[.slice A l.length c] w fun e w' => ∃ v, e = .returned v ∧ Ow w' w.heap.size 33 4 v l.length (scells l) ∧ Below w.heap.size w w' ∧ ∀ k, blkOf v = some k → k < w'.heap.size := by
      rcases Nat.eq_zero_or_pos l.length with h0 | h0
      · have : l = [] := List.eq_nil_of_length_eq_zero h0
        subst this
        exact clone0_any A c w
      · refine (cloneS_any A _ c l w hr hn).mono ?_
        rintro e w' ⟨v, rfl, how, hb⟩
        refine ⟨v, rfl, how, hb, fun k hk => ?_⟩
        obtain ⟨g, off, cap, rfl, _, hg, _⟩ := how.open_ h0
        injection hk with hk
        subst hk
        exact hg
    refine main.mono ?_
    rintro e w' ⟨v, rfl, how, hb, hlt⟩
    have hG : w.grownBy w' none := ⟨hb.os, hb.tape, hb.output, hb.size, fun b h _ => hb.block b h⟩
    have hnone : hp ([] : List AObj) 0 = none := rfl
    obtain ⟨A', c', he, g1, g2, hrd⟩ := how.form
    subst he
    have how0 : Ow w' 0 0 4 (.slice A' l.length c') l.length (scells l) := ⟨how.1, by
      rcases how.2 with h | ⟨a, h, _, h'⟩ | ⟨g, off, cap, h, _, h'⟩
      · exact .inl h
      · exact .inr (.inl ⟨a, h, Nat.zero_le _, h'⟩)
      · exact .inr (.inr ⟨g, off, cap, h, Nat.zero_le _, h'⟩)⟩
    obtain ⟨S, K, E⟩ := En.new (n := 0) (o' := .sl 4 (l.map sR)) (h := .slice A' l.length c') hnone hG (fun b hb' => ⟨how.lt b (by rw [← blk_own rfl]; exact hb'), hlt b hb'⟩)
      ⟨_, by rw [List.length_map]; exact how0, (flat_map sR_flat l).rds, fun r hr => by obtain ⟨x, _, rfl⟩ := List.mem_map.1 hr; rfl⟩
    have e : updF (hp []) 0 (some (.sl 4 (l.map sR))) = hp [.sl 4 (l.map sR)] := by
      funext i
      match i with
      | 0 => rfl
      | i + 1 => rfl
    rw [e] at S E
    exact ⟨_, rfl, F, _, S, K, E, .own (updF_same _ _ _)⟩
theorem samples_sat (s : CSt) (hn : s.list.length ≤ 8) : Sat Try.prog 28 [.ptr 0 0] (cH s) (.own 2) [cR s, .sl 4 (s.list.map sR), .sl 4 (s.list.map sR)] := by
  refine sat_of_vc (T := tiOf Try.prog) (E := E0) Try.func28 rfl rfl hE0 hm0 rfl ?_
  conv => whnf
  repeat (any_goals (first
    | exact True.intro
    | (refine Or.inl ?_; conv => whnf)
    | (refine And.intro (fun _ => ?_) tf; conv => whnf)
    | (refine And.intro ft (fun _ => ?_); conv => whnf)
    | (refine And.intro (by kernel_rfl) ?_; conv => whnf)
    | (refine And.intro (by decide) ?_; conv => whnf)
    | (refine And.intro (fun _ => ?_) (fun h => absurd h (by decide)); conv => whnf)
    | (refine And.intro (fun h => absurd h (by decide)) (fun _ => ?_); conv => whnf)
    | (refine And.intro (fun _ => ?_) (fun _ => ?_) <;> conv => whnf)
    | (refine ⟨_, _, lendON (clone_sat s.list (by omega)) rfl (flat_map sR_flat _), ?_⟩; conv => whnf)))
  all_goals refine ⟨[], ?_⟩
  repeat (any_goals (first | exact True.intro | exact rfl | with_reducible_and_instances rfl | exact (by kernel_rfl) | refine And.intro ?_ ?_))
  all_goals conv => whnf
theorem clone1_sat (s : CSt) (hn : s.list.length ≤ 8) : Sat Try.prog 40 [.ptr 0 0] (cH s) (.ptr 2 0) [cR s, .sl 4 (s.list.map sR), .cells [iA s.rho, iA s.least, bA s.held, iA s.streak, .own 3], .sl 4 (s.list.map sR)] := by
  refine sat_of_vc (T := tiOf Try.prog) (E := E0) Try.func40 rfl rfl hE0 hm0 rfl ?_
  conv => whnf
  repeat (any_goals (first
    | exact True.intro
    | (refine Or.inl ?_; conv => whnf)
    | (refine And.intro (fun _ => ?_) tf; conv => whnf)
    | (refine And.intro ft (fun _ => ?_); conv => whnf)
    | (refine And.intro (by kernel_rfl) ?_; conv => whnf)
    | (refine And.intro (by decide) ?_; conv => whnf)
    | (refine And.intro (fun _ => ?_) (fun h => absurd h (by decide)); conv => whnf)
    | (refine And.intro (fun h => absurd h (by decide)) (fun _ => ?_); conv => whnf)
    | (refine And.intro (fun _ => ?_) (fun _ => ?_) <;> conv => whnf)
    | (refine ⟨_, _, lendON (clone_sat s.list (by omega)) rfl (flat_map sR_flat _), ?_⟩; conv => whnf)))
  all_goals refine ⟨[], ?_⟩
  repeat (any_goals (first | exact True.intro | exact rfl | with_reducible_and_instances rfl | exact (by kernel_rfl) | refine And.intro ?_ ?_))
  all_goals conv => whnf
def midZ (g : Int × Int) : Int := if okG g = true then IntKind.i64.wrap (IntKind.i64.wrap (BitVec.ofInt IntKind.i64.bits g.1 &&& BitVec.ofInt IntKind.i64.bits g.2).toNat + (IntKind.i64.wrap (BitVec.ofInt IntKind.i64.bits g.1 ^^^ BitVec.ofInt IntKind.i64.bits g.2).toNat).fdiv (2 ^ (min (1 : Int).toNat IntKind.i64.bits))) else 0
theorem mid_sat (g : Int × Int) : Sat Try.prog 54 [gA g] [] (iA (midZ g)) [] := by
  refine sat_of_vc (T := tiOf Try.prog) (E := E0) Try.func54 rfl rfl hE0 hm0 rfl ?_
  conv => whnf
  repeat (any_goals (first
    | exact True.intro
    | (refine Or.inl ?_; conv => whnf)
    | (refine And.intro (fun _ => ?_) tf; conv => whnf)
    | (refine And.intro ft (fun _ => ?_); conv => whnf)
    | (refine And.intro (by kernel_rfl) ?_; conv => whnf)
    | (refine And.intro (by decide) ?_; conv => whnf)
    | (refine And.intro (fun _ => ?_) (fun h => absurd h (by decide)); conv => whnf)
    | (refine And.intro (fun h => absurd h (by decide)) (fun _ => ?_); conv => whnf)
    | (refine And.intro (fun _ => ?_) (fun _ => ?_) <;> conv => whnf)
    | (refine ⟨_, _, (gapRight_sat _).pu rfl rfl, ?_⟩; conv => whnf)))
  · have h : ¬ okG g = true := (by (try simp only [decide_eq_true_eq, decide_eq_false_iff_not, Bool.not_eq_true', Bool.not_eq_false', Bool.not_eq_true, Bool.not_eq_false, beq_iff_eq, bne_iff_ne, beq_eq_false_iff_ne, bne_eq_false_iff_eq, ne_eq, Decidable.not_not, Int.natCast_eq_zero] at *); first | omega | assumption | (simp_all; done) | (simp_all; omega))
    unfold midZ
    rw [if_neg h]
    all_goals refine ⟨[], ?_⟩
    repeat (any_goals (first | exact True.intro | exact rfl | with_reducible_and_instances rfl | exact (by kernel_rfl) | refine And.intro ?_ ?_))
    all_goals conv => whnf
  · have h : okG g = true := (by (try simp only [decide_eq_true_eq, decide_eq_false_iff_not, Bool.not_eq_true', Bool.not_eq_false', Bool.not_eq_true, Bool.not_eq_false, beq_iff_eq, bne_iff_ne, beq_eq_false_iff_ne, bne_eq_false_iff_eq, ne_eq, Decidable.not_not, Int.natCast_eq_zero] at *); first | omega | assumption | (simp_all; done) | (simp_all; omega))
    unfold midZ
    rw [if_pos h]
    all_goals refine ⟨[], ?_⟩
    repeat (any_goals (first | exact True.intro | exact rfl | with_reducible_and_instances rfl | exact (by kernel_rfl) | refine And.intro ?_ ?_))
    all_goals conv => whnf
def pointC (s : CSt) (stamp : Int) : Int × Nat := if (atC s stamp).2 = 0 then (midZ (atC s stamp).1, 0) else (0, (atC s stamp).2)
theorem point_sat (s : CSt) (stamp : Int) (hn : s.list.length ≤ 8) : Sat Try.prog 21 [.ptr 0 0, iA stamp] (cH s) (.tup [iA (pointC s stamp).1, iA (pointC s stamp).2]) (cH s) := by
  refine sat_of_vc (T := tiOf Try.prog) (E := E0) Try.func21 rfl rfl hE0 hm0 rfl ?_
  conv => whnf
  repeat (any_goals (first
    | exact True.intro
    | (refine Or.inl ?_; conv => whnf)
    | (refine And.intro (fun _ => ?_) tf; conv => whnf)
    | (refine And.intro ft (fun _ => ?_); conv => whnf)
    | (refine And.intro (by kernel_rfl) ?_; conv => whnf)
    | (refine And.intro (by decide) ?_; conv => whnf)
    | (refine And.intro (fun _ => ?_) (fun h => absurd h (by decide)); conv => whnf)
    | (refine And.intro (fun h => absurd h (by decide)) (fun _ => ?_); conv => whnf)
    | (refine And.intro (fun _ => ?_) (fun _ => ?_) <;> conv => whnf)
    | (refine ⟨_, _, (clkAt_sat s stamp hn).at2 0 1 rfl rfl rfl rfl rfl, ?_⟩; conv => whnf)
    | (refine ⟨_, _, (mid_sat _).pu rfl rfl, ?_⟩; conv => whnf)))
  · have h : ¬ (atC s stamp).2 = 0 := (by (try simp only [decide_eq_true_eq, decide_eq_false_iff_not, Bool.not_eq_true', Bool.not_eq_false', Bool.not_eq_true, Bool.not_eq_false, beq_iff_eq, bne_iff_ne, beq_eq_false_iff_ne, bne_eq_false_iff_eq, ne_eq, Decidable.not_not, Int.natCast_eq_zero] at *); first | omega | assumption | (simp_all; done) | (simp_all; omega))
    have hr : pointC s stamp = (0, (atC s stamp).2) := by unfold pointC; rw [if_neg h]
    rw [hr]
    all_goals refine ⟨[], ?_⟩
    repeat (any_goals (first | exact True.intro | exact rfl | with_reducible_and_instances rfl | exact (by kernel_rfl) | refine And.intro ?_ ?_))
    all_goals conv => whnf
  · have h : (atC s stamp).2 = 0 := (by (try simp only [decide_eq_true_eq, decide_eq_false_iff_not, Bool.not_eq_true', Bool.not_eq_false', Bool.not_eq_true, Bool.not_eq_false, beq_iff_eq, bne_iff_ne, beq_eq_false_iff_ne, bne_eq_false_iff_eq, ne_eq, Decidable.not_not, Int.natCast_eq_zero] at *); first | omega | assumption | (simp_all; done) | (simp_all; omega))
    have hr : pointC s stamp = (midZ (atC s stamp).1, 0) := by unfold pointC; rw [if_pos h]
    rw [hr]
    all_goals refine ⟨[], ?_⟩
    repeat (any_goals (first | exact True.intro | exact rfl | with_reducible_and_instances rfl | exact (by kernel_rfl) | refine And.intro ?_ ?_))
    all_goals conv => whnf
def tripZ (s : Smp) : Int := if okS s = true then (s.came - s.asked) - (s.sent - s.got) else 0
theorem trip_sat (x : Smp) : Sat Try.prog 32 [sA x] [] (iA (tripZ x)) [] := by
  refine sat_of_vc (T := tiOf Try.prog) (E := E0) Try.func32 rfl rfl hE0 hm0 rfl ?_
  conv => whnf
  repeat (any_goals (first
    | exact True.intro
    | (refine Or.inl ?_; conv => whnf)
    | (refine And.intro (fun _ => ?_) tf; conv => whnf)
    | (refine And.intro ft (fun _ => ?_); conv => whnf)
    | (refine And.intro (by kernel_rfl) ?_; conv => whnf)
    | (refine And.intro (by decide) ?_; conv => whnf)
    | (refine And.intro (fun _ => ?_) (fun h => absurd h (by decide)); conv => whnf)
    | (refine And.intro (fun h => absurd h (by decide)) (fun _ => ?_); conv => whnf)
    | (refine And.intro (fun _ => ?_) (fun _ => ?_) <;> conv => whnf)
    | (refine ⟨_, _, (right_sat _).pu rfl rfl, ?_⟩; conv => whnf)))
  · have h : ¬ okS x = true := (by (try simp only [decide_eq_true_eq, decide_eq_false_iff_not, Bool.not_eq_true', Bool.not_eq_false', Bool.not_eq_true, Bool.not_eq_false, beq_iff_eq, bne_iff_ne, beq_eq_false_iff_ne, bne_eq_false_iff_eq, ne_eq, Decidable.not_not, Int.natCast_eq_zero] at *); first | omega | assumption | (simp_all; done) | (simp_all; omega))
    unfold tripZ
    rw [if_neg h]
    all_goals refine ⟨[], ?_⟩
    repeat (any_goals (first | exact True.intro | exact rfl | with_reducible_and_instances rfl | exact (by kernel_rfl) | refine And.intro ?_ ?_))
    all_goals conv => whnf
  · have h : okS x = true := (by (try simp only [decide_eq_true_eq, decide_eq_false_iff_not, Bool.not_eq_true', Bool.not_eq_false', Bool.not_eq_true, Bool.not_eq_false, beq_iff_eq, bne_iff_ne, beq_eq_false_iff_ne, bne_eq_false_iff_eq, ne_eq, Decidable.not_not, Int.natCast_eq_zero] at *); first | omega | assumption | (simp_all; done) | (simp_all; omega))
    unfold tripZ
    rw [if_pos h]
    all_goals refine ⟨[], ?_⟩
    repeat (any_goals (first | exact True.intro | exact rfl | with_reducible_and_instances rfl | exact (by kernel_rfl) | refine And.intro ?_ ?_))
    all_goals conv => whnf
    simp [okS, isT] at h
    rw [wi (n := x.came - x.asked) (by omega) (by omega), wi (n := x.sent - x.got) (by omega) (by omega), wi (by omega) (by omega)]
end Go.Proofs.Ytgidaifoiljgoaa
