/- safe.Ratio of numbers that are not negative; drift.Low, High, Slack. -/
import Derived.Test.YtgidaifoiljgoaaDiv
namespace Go.Proofs.Ytgidaifoiljgoaa
open Go.RowKit
set_option linter.unusedVariables false
set_option linter.unusedSimpArgs false
set_option maxRecDepth 100000 in
theorem sizeN_any (a : Nat) (w : World) (h : a ≤ 9223372036854775807) : Calls Try.prog 82 #[.int .i64 a] w fun e w' => e = .returned (.int .u64 a) ∧ w = w' := by
  have h1 : decide ((a : Int) < 0) = false := decide_eq_false (by omega)
  have h2 := w64_nat a (by omega)
  go_enter Try.func82, Try.ntmps82
  go_wp2
  go_ret
  exact ⟨rfl, rfl⟩
set_option maxRecDepth 100000 in
theorem signedN_any (a : Nat) (w : World) (h : a ≤ 9223372036854775807) : Calls Try.prog 84 #[.int .u64 a, .bool false] w fun e w' => e = .returned (.tuple #[.int .i64 a, .int .i64 0]) ∧ w = w' := by
  have h1 : decide (9223372036854775807 < (a : Int)) = false := decide_eq_false (by omega)
  have h2 : wrap64 (a : Int) = (a : Int) := IntWalk.wrap64_in _ (by constructor <;> omega)
  go_enter Try.func84, Try.ntmps84
  go_wp2
  go_ret2
  exact ⟨rfl, rfl⟩
/-- The ratio, down or up. -/
def ratN (a b c : Nat) (up : Bool) : Nat := if up = true ∧ a * b % c ≠ 0 then a * b / c + 1 else a * b / c
set_option maxHeartbeats 1000000 in
set_option maxRecDepth 100000 in
theorem ratioN_any (a b c : Nat) (up : Bool) (w : World) (ha : a ≤ 9223372036854775807) (hb : b ≤ 9223372036854775807) (hc0 : 1 ≤ c) (hc : c ≤ 9223372036854775807) (hq : a * b / c < 9223372036854775807) :
    Calls Try.prog 65 #[.int .i64 a, .int .i64 b, .int .i64 c, .bool up] w fun e w' => e = .returned (.tuple #[.int .i64 (ratN a b c up), .int .i64 0]) ∧ Below w.heap.size w w' := by
  have h1 : decide ((a : Int) < 0) = false := decide_eq_false (by omega)
  have h2 : decide ((b : Int) < 0) = false := decide_eq_false (by omega)
  have h3 : decide ((c : Int) < 1) = false := decide_eq_false (by omega)
  have hw := w64_nat c (by omega)
  have HM := hide (Try.bits_Mul64 a b (by omega) (by omega))
  have hpq := (Nat.div_lt_iff_lt_mul (show 0 < c by omega)).1 hq
  have hhi : a * b / 18446744073709551616 < c := by rw [Nat.div_lt_iff_lt_mul (by omega)]; omega
  have HD := hide (fun w => div64_any (a * b / 18446744073709551616) (a * b % 18446744073709551616) c w (by omega) hhi (by omega))
  rw [show a * b / 18446744073709551616 * 18446744073709551616 + a * b % 18446744073709551616 = a * b by omega] at HD
  have HR : Hid (ratN a b c up = if up = true ∧ a * b % c ≠ 0 then a * b / c + 1 else a * b / c) := hide rfl
  generalize ratN a b c up = R at *
  have hrest : a * b % c < 18446744073709551616 := Nat.lt_trans (Nat.mod_lt _ (by omega)) (by omega)
  generalize a * b / 18446744073709551616 = H at *
  generalize a * b % 18446744073709551616 = L at *
  generalize a * b / c = Q at *
  generalize a * b % c = T at *
  have h4 : decide (c ≤ H) = false := decide_eq_false (by omega)
  have h5 : decide (9223372036854775808 < (Q : Int)) = false := decide_eq_false (by omega)
  clear hpq
  cases up with
  | false =>
    have hR := HR.out
    rw [if_neg (by simp)] at hR
    subst hR
    clear HR
    have HS := hide (fun w => signedN_any R w (by omega))
    go_enter Try.func65, Try.ntmps65
    go_wp2_with (first
      | (go_at_call 82; refine (sizeN_any _ _ (by assumption)).mono ?_; rintro e w' ⟨rfl, rfl⟩)
      | (go_at_call 81; refine (HM.out _).mono ?_; rintro e w' ⟨rfl, rfl⟩)
      | (go_at_call 83; refine (HD.out _).mono ?_; rintro e w1 ⟨rfl, hb1⟩)
      | (go_at_call 84; refine (HS.out _).mono ?_; rintro e w' ⟨rfl, rfl⟩))
    all_goals (go_ret2; exact ⟨rfl, hb1⟩)
  | true =>
    by_cases hT : T = 0
    · subst hT
      have hR := HR.out
      rw [if_neg (by simp)] at hR
      subst hR
      clear HR
      have HS := hide (fun w => signedN_any R w (by omega))
      go_enter Try.func65, Try.ntmps65
      go_wp2_with (first
      | (go_at_call 82; refine (sizeN_any _ _ (by assumption)).mono ?_; rintro e w' ⟨rfl, rfl⟩)
      | (go_at_call 81; refine (HM.out _).mono ?_; rintro e w' ⟨rfl, rfl⟩)
      | (go_at_call 83; refine (HD.out _).mono ?_; rintro e w1 ⟨rfl, hb1⟩)
      | (go_at_call 84; refine (HS.out _).mono ?_; rintro e w' ⟨rfl, rfl⟩))
      all_goals (go_ret2; exact ⟨rfl, hb1⟩)
    · have hR := HR.out
      rw [if_pos ⟨rfl, hT⟩] at hR
      have h6 : ((T : Int) == 0) = false := by rw [beq_eq_false_iff_ne]; omega
      have h7 : ((T : Int) != 0) = true := by rw [bne_iff_ne]; omega
      have hq1 : IntKind.u64.wrap ((Q : Int) + 1) = (R : Int) := by rw [hR, show (Q : Int) + 1 = ((Q + 1 : Nat) : Int) by omega, w64_nat _ (by omega)]
      have HS := hide (fun w => signedN_any R w (by omega))
      have HR2 := hide hR
      clear HR hT hR
      go_enter Try.func65, Try.ntmps65
      go_wp2_with (first
      | (go_at_call 82; refine (sizeN_any _ _ (by assumption)).mono ?_; rintro e w' ⟨rfl, rfl⟩)
      | (go_at_call 81; refine (HM.out _).mono ?_; rintro e w' ⟨rfl, rfl⟩)
      | (go_at_call 83; refine (HD.out _).mono ?_; rintro e w1 ⟨rfl, hb1⟩))
      refine (HS.out _).mono ?_
      rintro e w' ⟨rfl, rfl⟩
      go_wp2_with fail
      go_ret2
      exact ⟨rfl, hb1⟩
def okRate (r : Int) : Bool := decide (0 ≤ r ∧ r ≤ 100000)
theorem rate_any (r : Int) (w : World) : Calls Try.prog 64 #[.int .i64 r] w fun e w' => e = .returned (.bool (okRate r)) ∧ w = w' := by
  by_cases h : 0 ≤ r
  · have h1 : decide (0 ≤ r) = true := decide_eq_true h
    have HE := hide (show okRate r = decide (r ≤ 100000) by unfold okRate; simp [h])
    go_enter Try.func64, Try.ntmps64
    go_wp2
    go_ret
    exact ⟨ret_bool HE.out.symm, rfl⟩
  · have h1 : decide (0 ≤ r) = false := decide_eq_false h
    have HE := hide (show okRate r = false by unfold okRate; simp [h])
    go_enter Try.func64, Try.ntmps64
    go_wp2
    go_ret
    exact ⟨ret_bool HE.out.symm, rfl⟩
def lowZ (x r : Int) : Int := if 0 < x then max 1 (ratN (x - 1).toNat 1000000 (1000000 + r).toNat true : Int) else -(ratN (1 - x).toNat 1000000 (1000000 - r).toNat false : Int)
def slackZ (a r : Int) : Int := ratN a.toNat r.toNat (1000000 - r).toNat true
def nearX (x : Int) : Bool := decide (-4611686018427387904 ≤ x ∧ x ≤ 4611686018427387904)
theorem low_bound1 (x r : Int) (hx : 0 < x) (hx2 : x ≤ 4611686018427387904) (hr : 0 ≤ r) : (x - 1).toNat * 1000000 / (1000000 + r).toNat < 9223372036854775807 := by
  rw [Nat.div_lt_iff_lt_mul (by omega)]
  have h1 : 9223372036854775807 * 1000000 ≤ 9223372036854775807 * (1000000 + r).toNat := Nat.mul_le_mul_left _ (by omega)
  omega
theorem low_bound2 (x r : Int) (hx : x ≤ 0) (hx2 : -4611686018427387904 ≤ x) (hr : 0 ≤ r) (hr2 : r ≤ 100000) : (1 - x).toNat * 1000000 / (1000000 - r).toNat ≤ 5124095576030431006 := by
  refine Nat.le_of_lt_succ ((Nat.div_lt_iff_lt_mul (by omega)).2 ?_)
  have h1 : (5124095576030431006 + 1) * 900000 ≤ (5124095576030431006 + 1) * (1000000 - r).toNat := Nat.mul_le_mul_left _ (by omega)
  omega
theorem ratN_bounds (a b c : Nat) (up : Bool) : a * b / c ≤ ratN a b c up ∧ ratN a b c up ≤ a * b / c + 1 := by
  unfold ratN; split <;> omega
set_option maxHeartbeats 1000000 in
set_option maxRecDepth 100000 in
theorem low_ok (x r : Int) (w : World) (hx : nearX x = true) (hr : okRate r = true) :
    Calls Try.prog 34 #[.int .i64 x, .int .i64 r] w fun e w' => e = .returned (.tuple #[.int .i64 (lowZ x r), .int .i64 0]) ∧ Below w.heap.size w w' := by
  have hx' := of_decide_eq_true hx
  have hr' := of_decide_eq_true hr
  have HRT := hide (fun w => rate_any r w)
  rw [hr] at HRT
  have h1 : decide (x < -4611686018427387904) = false := decide_eq_false (by omega)
  have h2 : decide (4611686018427387904 < x) = false := decide_eq_false (by omega)
  clear hx hr
  by_cases h0 : 0 < x
  · have h3 : decide (0 < x) = true := decide_eq_true h0
    have HL : Hid (lowZ x r = max 1 (ratN (x - 1).toNat 1000000 (1000000 + r).toNat true : Int)) := hide (if_pos h0)
    have HRA := hide (fun w => ratioN_any (x - 1).toNat 1000000 (1000000 + r).toNat true w (by omega) (by omega) (by omega) (by omega) (low_bound1 x r h0 hx'.2 hr'.1))
    rw [show (((x - 1).toNat : Nat) : Int) = x - 1 by omega, show (((1000000 + r).toNat : Nat) : Int) = 1000000 + r by omega] at HRA
    generalize ratN (x - 1).toNat 1000000 (1000000 + r).toNat true = q at *
    have hle : -4611686018427387904 ≤ x ∧ x ≤ 4611686018427387904 := hx'
    have hl1 := hle.1
    have hl2 := hle.2
    have hr1 := hr'.1
    have hr2 := hr'.2
    clear hx' hr' hle
    go_enter Try.func34, Try.ntmps34
    go_wp2_with (first
      | (go_at_call 64; refine (HRT.out _).mono ?_; rintro e w' ⟨rfl, rfl⟩)
      | (go_at_call 65; refine (HRA.out _).mono ?_; rintro e w1 ⟨rfl, hb1⟩))
    go_ret2
    refine ⟨?_, hb1⟩
    rw [HL.out]
    rfl
  · have h3 : decide (0 < x) = false := decide_eq_false h0
    have HL : Hid (lowZ x r = -(ratN (1 - x).toNat 1000000 (1000000 - r).toNat false : Int)) := hide (if_neg h0)
    have hb := low_bound2 x r (by omega) hx'.1 hr'.1 hr'.2
    have hq := ratN_bounds (1 - x).toNat 1000000 (1000000 - r).toNat false
    have HRA := hide (fun w => ratioN_any (1 - x).toNat 1000000 (1000000 - r).toNat false w (by omega) (by omega) (by omega) (by omega) (by omega))
    rw [show (((1 - x).toNat : Nat) : Int) = 1 - x by omega, show (((1000000 - r).toNat : Nat) : Int) = 1000000 - r by omega] at HRA
    generalize (1 - x).toNat * 1000000 / (1000000 - r).toNat = d at *
    generalize ratN (1 - x).toNat 1000000 (1000000 - r).toNat false = q at *
    have hl1 := hx'.1
    have hl2 := hx'.2
    have hr1 := hr'.1
    have hr2 := hr'.2
    have hq2 : q ≤ 5124095576030431007 := by omega
    clear hx' hr' hb hq
    go_enter Try.func34, Try.ntmps34
    go_wp2_with (first
      | (go_at_call 64; refine (HRT.out _).mono ?_; rintro e w' ⟨rfl, rfl⟩)
      | (go_at_call 65; refine (HRA.out _).mono ?_; rintro e w1 ⟨rfl, hb1⟩))
    go_ret2
    refine ⟨?_, hb1⟩
    rw [HL.out]
    rfl
theorem lowZ_bounds (x r : Int) (hx : nearX x = true) (hr : okRate r = true) : -5124095576030431007 ≤ lowZ x r ∧ lowZ x r ≤ 4611686018427387904 := by
  have hx' := of_decide_eq_true hx
  have hr' := of_decide_eq_true hr
  unfold lowZ
  split
  · rename_i h
    have h1 : (x - 1).toNat * 1000000 / (1000000 + r).toNat ≤ (x - 1).toNat := by
      refine Nat.div_le_of_le_mul ?_
      rw [Nat.mul_comm]
      exact Nat.mul_le_mul_right _ (by omega)
    have h2 := ratN_bounds (x - 1).toNat 1000000 (1000000 + r).toNat true
    omega
  · have h1 := low_bound2 x r (by omega) hx'.1 hr'.1 hr'.2
    have h2 := ratN_bounds (1 - x).toNat 1000000 (1000000 - r).toNat false
    omega
set_option maxHeartbeats 1000000 in
set_option maxRecDepth 100000 in
theorem low_err (x r : Int) (w : World) (hx1 : -9223372036854775808 ≤ x) (hx2 : x ≤ 9223372036854775807) (h : nearX x = false ∨ okRate r = false) :
    Calls Try.prog 34 #[.int .i64 x, .int .i64 r] w fun e w' => e = .returned (.tuple #[.int .i64 0, .int .i64 11]) ∧ Below w.heap.size w w' := by
  by_cases c1 : x < -4611686018427387904
  · have h1 : decide (x < -4611686018427387904) = true := decide_eq_true c1
    go_enter Try.func34, Try.ntmps34
    go_wp2_with fail
    go_ret2
    exact ⟨rfl, Below.refl _ _⟩
  have h1 : decide (x < -4611686018427387904) = false := decide_eq_false c1
  by_cases c2 : 4611686018427387904 < x
  · have h2 : decide (4611686018427387904 < x) = true := decide_eq_true c2
    go_enter Try.func34, Try.ntmps34
    go_wp2_with fail
    go_ret2
    exact ⟨rfl, Below.refl _ _⟩
  have h2 : decide (4611686018427387904 < x) = false := decide_eq_false c2
  have hr : okRate r = false := h.resolve_left (by unfold nearX; simp; omega)
  have HRT := hide (fun w => rate_any r w)
  rw [hr] at HRT
  clear h hr
  go_enter Try.func34, Try.ntmps34
  go_wp2_with (go_at_call 64; refine (HRT.out _).mono ?_; rintro e w' ⟨rfl, rfl⟩)
  go_ret2
  exact ⟨rfl, Below.refl _ _⟩
def highZ (x r : Int) : Int := -lowZ (-x) r
set_option maxHeartbeats 1000000 in
set_option maxRecDepth 100000 in
theorem high_ok (x r : Int) (w : World) (hx : nearX x = true) (hr : okRate r = true) :
    Calls Try.prog 35 #[.int .i64 x, .int .i64 r] w fun e w' => e = .returned (.tuple #[.int .i64 (highZ x r), .int .i64 0]) ∧ Below w.heap.size w w' := by
  have hx' := of_decide_eq_true hx
  have h1 : decide (x < -4611686018427387904) = false := decide_eq_false (by omega)
  have h2 : decide (4611686018427387904 < x) = false := decide_eq_false (by omega)
  have hnx : nearX (-x) = true := by unfold nearX; rw [decide_eq_true_eq]; omega
  have HLO := hide (fun w => low_ok (-x) r w hnx hr)
  have hbd := lowZ_bounds (-x) r hnx hr
  have HH : Hid (highZ x r = -lowZ (-x) r) := hide rfl
  generalize highZ x r = H at *
  generalize lowZ (-x) r = L at *
  have hb1 := hbd.1
  have hb2 := hbd.2
  have hl1 := hx'.1
  have hl2 := hx'.2
  clear hbd hx hr hnx hx'
  go_enter Try.func35, Try.ntmps35
  go_wp2_with (go_at_call 34; refine (HLO.out _).mono ?_; rintro e w1 ⟨rfl, hbw⟩)
  go_ret2
  exact ⟨by rw [HH.out]; rfl, hbw⟩
set_option maxHeartbeats 1000000 in
set_option maxRecDepth 100000 in
theorem high_err (x r : Int) (w : World) (hx1 : -9223372036854775808 ≤ x) (hx2 : x ≤ 9223372036854775807) (h : nearX x = false ∨ okRate r = false) :
    Calls Try.prog 35 #[.int .i64 x, .int .i64 r] w fun e w' => e = .returned (.tuple #[.int .i64 0, .int .i64 11]) ∧ Below w.heap.size w w' := by
  by_cases c1 : x < -4611686018427387904
  · have h1 : decide (x < -4611686018427387904) = true := decide_eq_true c1
    go_enter Try.func35, Try.ntmps35
    go_wp2_with fail
    go_ret2
    exact ⟨rfl, Below.refl _ _⟩
  have h1 : decide (x < -4611686018427387904) = false := decide_eq_false c1
  by_cases c2 : 4611686018427387904 < x
  · have h2 : decide (4611686018427387904 < x) = true := decide_eq_true c2
    go_enter Try.func35, Try.ntmps35
    go_wp2_with fail
    go_ret2
    exact ⟨rfl, Below.refl _ _⟩
  have h2 : decide (4611686018427387904 < x) = false := decide_eq_false c2
  have hr : okRate r = false := h.resolve_left (by unfold nearX; simp; omega)
  have HLO := hide (fun w => low_err (-x) r w (by omega) (by omega) (.inr hr))
  clear h hr
  go_enter Try.func35, Try.ntmps35
  go_wp2_with (go_at_call 34; refine (HLO.out _).mono ?_; rintro e w1 ⟨rfl, hbw⟩)
  go_ret2
  exact ⟨rfl, hbw⟩
def farA (a : Int) : Bool := decide (0 ≤ a ∧ a ≤ 4611686018427387904)
set_option maxHeartbeats 1000000 in
set_option maxRecDepth 100000 in
theorem slack_ok (a r : Int) (w : World) (ha : farA a = true) (hr : okRate r = true) :
    Calls Try.prog 31 #[.int .i64 a, .int .i64 r] w fun e w' => e = .returned (.tuple #[.int .i64 (slackZ a r), .int .i64 0]) ∧ Below w.heap.size w w' := by
  have ha' := of_decide_eq_true ha
  have hr' := of_decide_eq_true hr
  have HRT := hide (fun w => rate_any r w)
  rw [hr] at HRT
  have h1 : decide (a < 0) = false := decide_eq_false (by omega)
  have h2 : decide (4611686018427387904 < a) = false := decide_eq_false (by omega)
  have hbd : a.toNat * r.toNat / (1000000 - r).toNat < 9223372036854775807 := by
    rw [Nat.div_lt_iff_lt_mul (by omega)]
    have h5 : a.toNat * r.toNat ≤ 4611686018427387904 * 100000 := Nat.mul_le_mul (by omega) (by omega)
    have h6 : 9223372036854775807 * 900000 ≤ 9223372036854775807 * (1000000 - r).toNat := Nat.mul_le_mul_left _ (by omega)
    omega
  have HRA := hide (fun w => ratioN_any a.toNat r.toNat (1000000 - r).toNat true w (by omega) (by omega) (by omega) (by omega) hbd)
  rw [show ((a.toNat : Nat) : Int) = a by omega, show ((r.toNat : Nat) : Int) = r by omega, show (((1000000 - r).toNat : Nat) : Int) = 1000000 - r by omega] at HRA
  have HL : Hid (slackZ a r = (ratN a.toNat r.toNat (1000000 - r).toNat true : Int)) := hide rfl
  generalize ratN a.toNat r.toNat (1000000 - r).toNat true = q at *
  generalize slackZ a r = sl at *
  have hr1 := hr'.1
  have hr2 := hr'.2
  clear ha ha' hr hr' hbd
  go_enter Try.func31, Try.ntmps31
  go_wp2_with (first
    | (go_at_call 64; refine (HRT.out _).mono ?_; rintro e w' ⟨rfl, rfl⟩)
    | (go_at_call 65; refine (HRA.out _).mono ?_; rintro e w1 ⟨rfl, hb1⟩))
  go_ret2
  exact ⟨by rw [HL.out]; rfl, hb1⟩
end Go.Proofs.Ytgidaifoiljgoaa
