/- clock.Clock by its conditions: what it calls, New, At. -/
import Derived.Test.YtgidaifoiljgoaaVcV
import Derived.Test.YtgidaifoiljgoaaVs
import Derived.Test.YtgidaifoiljgoaaClkB
import Derived.Test.YtgidaifoiljgoaaSmpSl
import Derived.Test.YtgidaifoiljgoaaMeet
namespace Go.Proofs.Ytgidaifoiljgoaa
set_option linter.unusedSimpArgs false
set_option linter.unusedVariables false
open Go.RowKit
set_option maxRecDepth 100000
abbrev iD (z : Int) : D := .v (.int .i64 z)
abbrev iA (z : Int) : AV := .d (.v (.int .i64 z))
abbrev bA (b : Bool) : AV := .d (.v (.bool b))
abbrev gR (g : Int × Int) : List D := [iD g.1, iD g.2]
abbrev gA (g : Int × Int) : AV := .d (.agg (gR g))
abbrev sR (s : Smp) : List D := [iD s.asked, iD s.got, iD s.sent, iD s.came]
abbrev sA (s : Smp) : AV := .d (.agg (sR s))
theorem right_sat (s : Smp) : Sat Try.prog 25 [sA s] [] (bA (okS s)) [] :=
  .of_calls (by repeat constructor) (by repeat constructor) fun w => right_any s w
theorem isTime_sat (t : Int) : Sat Try.prog 51 [iA t] [] (bA (isT t)) [] :=
  .of_same (by repeat constructor) (by repeat constructor) fun w => isTime_any t w
theorem isRate_sat (t : Int) : Sat Try.prog 42 [iA t] [] (bA (okRate t)) [] :=
  .of_same (by repeat constructor) (by repeat constructor) fun w => isRate_any t w
theorem at_sat (s : Smp) (stamp rho : Int) (h1 : -9223372036854775808 ≤ stamp) (h2 : stamp ≤ 9223372036854775807) : Sat Try.prog 24 [sA s, iA stamp, iA rho] [] (.tup [gA (atR s stamp rho).1, iA (atR s stamp rho).2]) [] :=
  .of_calls (by repeat constructor) (by repeat constructor) fun w => at_any s stamp rho w h1 h2
theorem gapRight_sat (g : Int × Int) : Sat Try.prog 46 [gA g] [] (bA (okG g)) [] :=
  .of_calls (by repeat constructor) (by repeat constructor) fun w => gapRight_any g.1 g.2 w
theorem gR_flat (g : Int × Int) : FlatVs (gR g) (gcell g) := by repeat constructor
theorem sR_flat (s : Smp) : FlatVs (sR s) (smv s).toList := by repeat constructor
theorem meet_sat (gs : List (Int × Int)) (hn : gs.length ≤ 140737488351232) : Sat Try.prog 29 [.d (.sl 2 (gs.map gR))] [] (.tup [gA (meetR gs).1, iA (meetR gs).2]) [] := by
  intro F ρ w vals En hv
  obtain ⟨v, rfl, hv'⟩ := hv.one_out
  cases hv' with | d hv =>
    obtain ⟨A, c, rfl, h1, h2, hr⟩ := hv.sl_rd En.fb (flat_map gR_flat gs)
    rw [List.length_map] at hr ⊢
    refine (meet_any A _ c gs w hr hn).mono ?_
    rintro e w' ⟨rfl, hb⟩
    obtain ⟨S, E'⟩ := step_below En hb
    exact ⟨_, rfl, F, ρ, S, Keep.refl _, E', FlatW.ra (by repeat constructor)⟩
theorem agree_sat (gs : List (Int × Int)) (hn : gs.length ≤ 140737488351232) : Sat Try.prog 45 [.d (.sl 2 (gs.map gR))] [] (bA (agreeB gs)) [] := by
  intro F ρ w vals En hv
  obtain ⟨v, rfl, hv'⟩ := hv.one_out
  cases hv' with | d hv =>
    obtain ⟨A, c, rfl, h1, h2, hr⟩ := hv.sl_rd En.fb (flat_map gR_flat gs)
    rw [List.length_map] at hr ⊢
    refine (agree_any A _ c gs w hr hn).mono ?_
    rintro e w' ⟨rfl, hb⟩
    obtain ⟨S, E'⟩ := step_below En hb
    exact ⟨_, rfl, F, ρ, S, Keep.refl _, E', .d (.v _)⟩
structure CSt where
  rho : Int
  least : Int
  held : Bool
  streak : Int
  list : List Smp
abbrev cR (s : CSt) : AObj := .cells [iA s.rho, iA s.least, bA s.held, iA s.streak, .own 1]
/-- A clock and its samples. -/
abbrev cH (s : CSt) : List AObj := [cR s, .sl 4 (s.list.map sR)]
theorem new_ok (rho least : Int) (h : okRate rho = true) (h1 : 0 ≤ least) (h2 : least ≤ 100) : Sat Try.prog 13 [iA rho, iA least] [] (.tup [.ptr 0 0, iA 0]) (cH ⟨rho, least, false, 0, []⟩) := by
  refine sat_of_vc (T := tiOf Try.prog) (E := E0) Try.func13 rfl rfl hE0 hm0 rfl ?_
  conv => whnf
  repeat (any_goals (first
    | exact True.intro
    | (refine Or.inl ?_; conv => whnf)
    | (refine And.intro (fun _ => ?_) tf; conv => whnf)
    | (refine And.intro ft (fun _ => ?_); conv => whnf)
    | (refine And.intro (by kernel_rfl) ?_; conv => whnf)
    | (refine And.intro (by decide) ?_; conv => whnf)
    | (refine And.intro (fun _ => ?_) (fun h => absurd h (by decide)); conv => whnf)
    | (refine And.intro (fun h => absurd h (by decide)) (fun _ => ?_); conv => whnf)
    | (refine And.intro (fun _ => ?_) (fun _ => ?_) <;> conv => whnf)
    | (refine ⟨_, _, (isRate_sat _).pu rfl rfl, ?_⟩; conv => whnf)))
  all_goals try (exfalso; simp only [decide_eq_true_eq, decide_eq_false_iff_not, Bool.not_eq_true', Bool.not_eq_false', Bool.not_eq_true, Bool.not_eq_false, beq_iff_eq, bne_iff_ne, beq_eq_false_iff_ne, bne_eq_false_iff_eq, ne_eq, Decidable.not_not] at *; first | omega | contradiction | (simp_all; done) | (simp_all; omega))
  all_goals refine ⟨[], ?_⟩
  repeat (any_goals (first | exact True.intro | exact rfl | with_reducible_and_instances rfl | exact (by kernel_rfl) | refine And.intro ?_ ?_))
  all_goals conv => whnf
theorem new_err (rho least : Int) (h : okRate rho = false ∨ least < 0 ∨ 100 < least) : Sat Try.prog 13 [iA rho, iA least] [] (.tup [.d (.v (.pointer none)), iA 11]) [] := by
  refine sat_of_vc (T := tiOf Try.prog) (E := E0) Try.func13 rfl rfl hE0 hm0 rfl ?_
  conv => whnf
  repeat (any_goals (first
    | exact True.intro
    | (refine Or.inl ?_; conv => whnf)
    | (refine And.intro (fun _ => ?_) tf; conv => whnf)
    | (refine And.intro ft (fun _ => ?_); conv => whnf)
    | (refine And.intro (by kernel_rfl) ?_; conv => whnf)
    | (refine And.intro (by decide) ?_; conv => whnf)
    | (refine And.intro (fun _ => ?_) (fun h => absurd h (by decide)); conv => whnf)
    | (refine And.intro (fun h => absurd h (by decide)) (fun _ => ?_); conv => whnf)
    | (refine And.intro (fun _ => ?_) (fun _ => ?_) <;> conv => whnf)
    | (refine ⟨_, _, (isRate_sat _).pu rfl rfl, ?_⟩; conv => whnf)))
  all_goals try (exfalso; simp only [decide_eq_true_eq, decide_eq_false_iff_not, Bool.not_eq_true', Bool.not_eq_false', Bool.not_eq_true, Bool.not_eq_false, beq_iff_eq, bne_iff_ne, beq_eq_false_iff_ne, bne_eq_false_iff_eq, ne_eq, Decidable.not_not] at *; first | omega | contradiction | (simp_all; done) | (simp_all; omega))
  all_goals refine ⟨[], ?_⟩
  repeat (any_goals (first | exact True.intro | exact rfl | with_reducible_and_instances rfl | exact (by kernel_rfl) | refine And.intro ?_ ?_))
  all_goals conv => whnf
theorem held_sat (s : CSt) : Sat Try.prog 27 [.ptr 0 0] (cH s) (bA s.held) (cH s) := by
  refine sat_of_vc (T := tiOf Try.prog) (E := E0) Try.func27 rfl rfl hE0 hm0 rfl ?_
  conv => whnf
  repeat (any_goals (first
    | exact True.intro
    | (refine Or.inl ?_; conv => whnf)
    | (refine And.intro (fun _ => ?_) tf; conv => whnf)
    | (refine And.intro ft (fun _ => ?_); conv => whnf)
    | (refine And.intro (by kernel_rfl) ?_; conv => whnf)
    | (refine And.intro (by decide) ?_; conv => whnf)
    | (refine And.intro (fun _ => ?_) (fun h => absurd h (by decide)); conv => whnf)
    | (refine And.intro (fun h => absurd h (by decide)) (fun _ => ?_); conv => whnf)
    | (refine And.intro (fun _ => ?_) (fun _ => ?_) <;> conv => whnf)))
  all_goals refine ⟨[], ?_⟩
  repeat (any_goals (first | exact True.intro | exact rfl | with_reducible_and_instances rfl | exact (by kernel_rfl) | refine And.intro ?_ ?_))
  all_goals conv => whnf
theorem streak_sat (s : CSt) : Sat Try.prog 26 [.ptr 0 0] (cH s) (iA s.streak) (cH s) := by
  refine sat_of_vc (T := tiOf Try.prog) (E := E0) Try.func26 rfl rfl hE0 hm0 rfl ?_
  conv => whnf
  repeat (any_goals (first
    | exact True.intro
    | (refine Or.inl ?_; conv => whnf)
    | (refine And.intro (fun _ => ?_) tf; conv => whnf)
    | (refine And.intro ft (fun _ => ?_); conv => whnf)
    | (refine And.intro (by kernel_rfl) ?_; conv => whnf)
    | (refine And.intro (by decide) ?_; conv => whnf)
    | (refine And.intro (fun _ => ?_) (fun h => absurd h (by decide)); conv => whnf)
    | (refine And.intro (fun h => absurd h (by decide)) (fun _ => ?_); conv => whnf)
    | (refine And.intro (fun _ => ?_) (fun _ => ?_) <;> conv => whnf)))
  all_goals refine ⟨[], ?_⟩
  repeat (any_goals (first | exact True.intro | exact rfl | with_reducible_and_instances rfl | exact (by kernel_rfl) | refine And.intro ?_ ?_))
  all_goals conv => whnf
end Go.Proofs.Ytgidaifoiljgoaa
