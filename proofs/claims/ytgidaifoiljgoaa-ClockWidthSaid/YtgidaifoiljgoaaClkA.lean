/- clock.Sample: Right, Trip, At. -/
import Derived.Test.YtgidaifoiljgoaaSafe
import Derived.Test.YtgidaifoiljgoaaSafeAdd
import Derived.Test.YtgidaifoiljgoaaGap
namespace Go.Proofs.Ytgidaifoiljgoaa
open Go.RowKit
set_option linter.unusedVariables false
set_option linter.unusedSimpArgs false
structure Smp where
  asked : Int
  got : Int
  sent : Int
  came : Int
deriving DecidableEq
def smv (s : Smp) : Array Value := #[.int .i64 s.asked, .int .i64 s.got, .int .i64 s.sent, .int .i64 s.came]
def isT (t : Int) : Bool := decide (0 ≤ t ∧ t ≤ 4611686018427387903)
def okS (s : Smp) : Bool := isT s.asked && isT s.got && isT s.sent && isT s.came && decide (s.asked ≤ s.came) && decide (s.got ≤ s.sent)
theorem isTime_any (t : Int) (w : World) : Calls Try.prog 51 #[.int .i64 t] w fun e w' => e = .returned (.bool (isT t)) ∧ w = w' := by
  by_cases h : 0 ≤ t
  · have h1 : decide (0 ≤ t) = true := decide_eq_true h
    have HE := hide (show isT t = decide (t ≤ 4611686018427387903) by unfold isT; simp [h])
    go_enter Try.func51, Try.ntmps51
    go_wp2
    go_ret
    exact ⟨ret_bool HE.out.symm, rfl⟩
  · have h1 : decide (0 ≤ t) = false := decide_eq_false h
    have HE := hide (show isT t = false by unfold isT; simp [h])
    go_enter Try.func51, Try.ntmps51
    go_wp2
    go_ret
    exact ⟨ret_bool HE.out.symm, rfl⟩
theorem isRate_any (r : Int) (w : World) : Calls Try.prog 42 #[.int .i64 r] w fun e w' => e = .returned (.bool (okRate r)) ∧ w = w' := by
  by_cases h : 0 ≤ r
  · have h1 : decide (0 ≤ r) = true := decide_eq_true h
    have HE := hide (show okRate r = decide (r ≤ 100000) by unfold okRate; simp [h])
    go_enter Try.func42, Try.ntmps42
    go_wp2
    go_ret
    exact ⟨ret_bool HE.out.symm, rfl⟩
  · have h1 : decide (0 ≤ r) = false := decide_eq_false h
    have HE := hide (show okRate r = false by unfold okRate; simp [h])
    go_enter Try.func42, Try.ntmps42
    go_wp2
    go_ret
    exact ⟨ret_bool HE.out.symm, rfl⟩
set_option maxHeartbeats 1000000 in
set_option maxRecDepth 100000 in
theorem right_any (s : Smp) (w : World) : Calls Try.prog 25 #[.agg (smv s)] w fun e w' => e = .returned (.bool (okS s)) ∧ Below w.heap.size w w' := by
  obtain ⟨a, g, t, c⟩ := s
  have HO : Hid (okS ⟨a, g, t, c⟩ = (isT a && isT g && isT t && isT c && decide (a ≤ c) && decide (g ≤ t))) := hide rfl
  have HA := hide (fun w => isTime_any a w)
  have HG := hide (fun w => isTime_any g w)
  have HT := hide (fun w => isTime_any t w)
  have HC := hide (fun w => isTime_any c w)
  generalize okS ⟨a, g, t, c⟩ = r at *
  generalize isT a = ta at *
  generalize isT g = tg at *
  generalize isT t = tt at *
  generalize isT c = tc at *
  unfold smv
  simp only []
  cases ta with
  | false =>
    go_enter Try.func25, Try.ntmps25
    go_wp2_with fail
    refine (HA.out _).mono ?_
    rintro e w' ⟨rfl, hw⟩
    subst hw
    go_wp2_with fail
    go_ret
    exact ⟨ret_bool (by rw [HO.out]; simp), (Below.refl _ _).alloc (Nat.le_refl _) _⟩
  | true =>
    cases tg with
    | false =>
      go_enter Try.func25, Try.ntmps25
      go_wp2_with fail
      refine (HA.out _).mono ?_
      rintro e w' ⟨rfl, hw⟩
      subst hw
      go_wp2_with fail
      refine (HG.out _).mono ?_
      rintro e w' ⟨rfl, hw⟩
      subst hw
      go_wp2_with fail
      go_ret
      exact ⟨ret_bool (by rw [HO.out]; simp), (Below.refl _ _).alloc (Nat.le_refl _) _⟩
    | true =>
      cases tt with
      | false =>
        go_enter Try.func25, Try.ntmps25
        go_wp2_with fail
        refine (HA.out _).mono ?_
        rintro e w' ⟨rfl, hw⟩
        subst hw
        go_wp2_with fail
        refine (HG.out _).mono ?_
        rintro e w' ⟨rfl, hw⟩
        subst hw
        go_wp2_with fail
        refine (HT.out _).mono ?_
        rintro e w' ⟨rfl, hw⟩
        subst hw
        go_wp2_with fail
        go_ret
        exact ⟨ret_bool (by rw [HO.out]; simp), (Below.refl _ _).alloc (Nat.le_refl _) _⟩
      | true =>
        cases tc with
        | false =>
          go_enter Try.func25, Try.ntmps25
          go_wp2_with fail
          refine (HA.out _).mono ?_
          rintro e w' ⟨rfl, hw⟩
          subst hw
          go_wp2_with fail
          refine (HG.out _).mono ?_
          rintro e w' ⟨rfl, hw⟩
          subst hw
          go_wp2_with fail
          refine (HT.out _).mono ?_
          rintro e w' ⟨rfl, hw⟩
          subst hw
          go_wp2_with fail
          refine (HC.out _).mono ?_
          rintro e w' ⟨rfl, hw⟩
          subst hw
          go_wp2_with fail
          go_ret
          exact ⟨ret_bool (by rw [HO.out]; simp), (Below.refl _ _).alloc (Nat.le_refl _) _⟩
        | true =>
          by_cases h0 : a ≤ c
          · have d0 : decide (a ≤ c) = true := decide_eq_true h0
            rw [d0] at HO
            have d1 : Hid (r = decide (g ≤ t)) := hide (by rw [HO.out]; simp)
            go_enter Try.func25, Try.ntmps25
            go_wp2_with fail
            refine (HA.out _).mono ?_
            rintro e w' ⟨rfl, hw⟩
            subst hw
            go_wp2_with fail
            refine (HG.out _).mono ?_
            rintro e w' ⟨rfl, hw⟩
            subst hw
            go_wp2_with fail
            refine (HT.out _).mono ?_
            rintro e w' ⟨rfl, hw⟩
            subst hw
            go_wp2_with fail
            refine (HC.out _).mono ?_
            rintro e w' ⟨rfl, hw⟩
            subst hw
            go_wp2_with fail
            go_ret
            exact ⟨ret_bool (by rw [d1.out]), (Below.refl _ _).alloc (Nat.le_refl _) _⟩
          · have d0 : decide (a ≤ c) = false := decide_eq_false h0
            rw [d0] at HO
            go_enter Try.func25, Try.ntmps25
            go_wp2_with fail
            refine (HA.out _).mono ?_
            rintro e w' ⟨rfl, hw⟩
            subst hw
            go_wp2_with fail
            refine (HG.out _).mono ?_
            rintro e w' ⟨rfl, hw⟩
            subst hw
            go_wp2_with fail
            refine (HT.out _).mono ?_
            rintro e w' ⟨rfl, hw⟩
            subst hw
            go_wp2_with fail
            refine (HC.out _).mono ?_
            rintro e w' ⟨rfl, hw⟩
            subst hw
            go_wp2_with fail
            go_ret
            exact ⟨ret_bool (by rw [HO.out]; simp), (Below.refl _ _).alloc (Nat.le_refl _) _⟩
/-- The sample's interval at a stamp. -/
def atLo (s : Smp) (stamp rho : Int) : Int := max (s.asked + lowZ (stamp - s.got) rho) 0
def atHi (s : Smp) (stamp rho : Int) : Int := min (s.came + highZ (stamp - s.sent) rho) 4611686018427387903
def atR (s : Smp) (stamp rho : Int) : (Int × Int) × Nat :=
  if okS s = false then ((0, 0), 10) else if isT stamp = false ∨ okRate rho = false then ((0, 0), 11) else if atHi s stamp rho < atLo s stamp rho then ((0, 0), 13) else ((atLo s stamp rho, atHi s stamp rho), 0)
end Go.Proofs.Ytgidaifoiljgoaa
