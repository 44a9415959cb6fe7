/- That the layer's code is alive, by conditions. -/
import Derived.Test.YtgidaifoiljgoaaKe
namespace Go.Proofs.Ytgidaifoiljgoaa
set_option linter.unusedSimpArgs false
set_option linter.unusedVariables false
open Go.RowKit
set_option maxRecDepth 100000
def q1 : Smp := ⟨100, 7, 9, 110⟩
def q2 : Smp := ⟨300, 9, 9, 301⟩
def q3 : Smp := ⟨310, 19, 19, 311⟩
def t0 : CSt := ⟨0, 1, false, 0, []⟩
def t1 : CSt := ⟨0, 1, false, 1, [q1]⟩
def t2 : CSt := ⟨0, 1, true, 0, [q2]⟩
def t3 : CSt := ⟨0, 1, false, 1, [q2, q3]⟩
theorem c1 : addC t0 q1 = (t1, 0) := by kernel_rfl
theorem c2 : addC t1 q2 = (t2, 21) := by kernel_rfl
theorem c3 : addC t2 q3 = (t3, 0) := by kernel_rfl
theorem c4 : atC t0 9 = ((0, 0), 19) := by kernel_rfl
theorem c5 : atC t1 9 = ((101, 111), 0) := by kernel_rfl
theorem c6 : pointC t1 9 = (106, 0) := by kernel_rfl
theorem c7 : atR q1 9 0 = ((101, 111), 0) := by kernel_rfl
theorem c8 : setC t3 true 0 [q1] = (⟨0, 1, true, 0, [q1]⟩, 0) := by kernel_rfl
theorem alive_sat : Sat Try.prog 12 [] [] (bA true) [] := by
  have a1 := at_sat q1 9 0 (by omega) (by omega)
  have n1 := new_ok 0 1 rfl (by omega) (by omega)
  have a0 := clkAt_sat t0 9 (by decide)
  have d1 := add_sat t0 q1 (by decide) (by decide)
  have a2 := clkAt_sat t1 9 (by decide)
  have p1 := point_sat t1 9 (by decide)
  have l1 := clone1_sat t1 (by decide)
  have d2 := add_sat t1 q2 (by decide) (by decide)
  have m2 := samples_sat t2 (by decide)
  have d3 := add_sat t2 q3 (by decide) (by decide)
  have v1 := set_sat t3 true 0 [q1] (by decide)
  rw [c7] at a1
  rw [c4] at a0
  rw [c1] at d1
  rw [c5] at a2
  rw [c6] at p1
  rw [c2] at d2
  rw [c3] at d3
  rw [c8] at v1
  refine sat_of_vc (T := tiOf Try.prog) (E := E0) Try.func12 rfl rfl hE0 hm0 rfl ?_
  conv => whnf
  repeat (any_goals (first
    | exact True.intro
    | (refine Or.inl ?_; conv => whnf)
    | (refine And.intro (fun _ => ?_) tf; conv => whnf)
    | (refine And.intro ft (fun _ => ?_); conv => whnf)
    | (refine And.intro (by kernel_rfl) ?_; conv => whnf)
    | (refine And.intro (by decide) ?_; conv => whnf)
    | (refine And.intro (fun _ => ?_) (fun h => absurd h (by decide)); conv => whnf)
    | (refine And.intro (fun h => absurd h (by decide)) (fun _ => ?_); conv => whnf)
    | (refine ⟨0, rfl, by decide, ?_⟩; conv => whnf)
    | (refine ⟨_, rfl, ?_⟩; conv => whnf)
    | (refine And.intro (fun _ => ?_) (fun _ => ?_) <;> conv => whnf)
    | (refine ⟨_, _, a1.pu rfl rfl, ?_⟩; conv => whnf)
    | (refine ⟨_, _, n1.nw rfl, ?_⟩; conv => whnf)
    | (refine ⟨_, _, a0.at2 2 3 rfl rfl rfl rfl rfl, ?_⟩; conv => whnf)
    | (refine ⟨_, _, d1.at2 2 3 rfl rfl rfl rfl rfl, ?_⟩; conv => whnf)
    | (refine ⟨_, _, a2.at2 2 5 rfl rfl rfl rfl rfl, ?_⟩; conv => whnf)
    | (refine ⟨_, _, p1.at2 2 5 rfl rfl rfl rfl rfl, ?_⟩; conv => whnf)
    | (refine ⟨_, _, l1.at2 2 5 rfl rfl rfl rfl rfl, ?_⟩; conv => whnf)
    | (refine ⟨_, _, d2.at2 2 5 rfl rfl rfl rfl rfl, ?_⟩; conv => whnf)
    | (refine ⟨_, _, (held_sat t2).at2 2 9 rfl rfl rfl rfl rfl, ?_⟩; conv => whnf)
    | (refine ⟨_, _, m2.at2 2 9 rfl rfl rfl rfl rfl, ?_⟩; conv => whnf)
    | (refine ⟨_, _, d3.at2 2 9 rfl rfl rfl rfl rfl, ?_⟩; conv => whnf)
    | (refine ⟨_, _, (held_sat t3).at2 2 11 rfl rfl rfl rfl rfl, ?_⟩; conv => whnf)
    | (refine ⟨_, _, (streak_sat t3).at2 2 11 rfl rfl rfl rfl rfl, ?_⟩; conv => whnf)
    | (refine ⟨_, _, (right_sat q1).pu rfl rfl, ?_⟩; conv => whnf)
    | (refine ⟨_, _, (trip_sat q1).pu rfl rfl, ?_⟩; conv => whnf)
    | (refine ⟨_, _, (held_sat t1).at2 7 8 rfl rfl rfl rfl rfl, ?_⟩; conv => whnf)
    | (refine ⟨_, _, (streak_sat t1).at2 7 8 rfl rfl rfl rfl rfl, ?_⟩; conv => whnf)
    | (refine ⟨_, _, v1.at3 2 11 12 rfl rfl rfl rfl rfl rfl, ?_⟩; conv => whnf)
    | (refine ⟨_, _, (held_sat ⟨0, 1, true, 0, [q1]⟩).at2 2 13 rfl rfl rfl rfl rfl, ?_⟩; conv => whnf)
    | (refine ⟨_, _, eqP (by kernel_rfl), ?_⟩; conv => whnf)
    | (refine ⟨_, _, neP (by kernel_rfl), ?_⟩; conv => whnf)
    | (refine ⟨_, _, eqS (by kernel_rfl), ?_⟩; conv => whnf)))
  all_goals refine ⟨[], ?_⟩
  repeat (any_goals (first | exact True.intro | exact rfl | with_reducible_and_instances rfl | exact (by kernel_rfl) | refine And.intro ?_ ?_))
  all_goals conv => whnf
end Go.Proofs.Ytgidaifoiljgoaa
