/- Parts Safe, SafeAdd, Gap, ClkA, ClkB, SmpSl, Meet, Rz, Ka, DrA, DrB of the proof, put together. -/
import Derived.Test.YtgidaifoiljgoaaM6
import Derived.Test.YtgidaifoiljgoaaProg
import Derived.Deep.Cut
import Derived.Outline
import Derived.Shelf.Spec.BitsCarry
/- safe.Ratio of numbers that are not negative; drift.Low, High, Slack. -/
namespace Go.Proofs.Ytgidaifoiljgoaa
open Go.RowKit
set_option linter.unusedVariables false
set_option linter.unusedSimpArgs false
set_option maxRecDepth 100000 in
theorem sizeN_any (a : Nat) (w : World) (h : a ≤ 9223372036854775807) : Calls Try.prog 82 #[.int .i64 a] w fun e w' => e = .returned (.int .u64 a) ∧ w = w' := by
  have h1 : decide ((a : Int) < 0) = false := decide_eq_false (by omega)
  have h2 := w64_nat a (by omega)
  go_enter Try.func82, Try.ntmps82
  go_wp2
  go_ret
  exact ⟨rfl, rfl⟩
set_option maxRecDepth 100000 in
theorem signedN_any (a : Nat) (w : World) (h : a ≤ 9223372036854775807) : Calls Try.prog 84 #[.int .u64 a, .bool false] w fun e w' => e = .returned (.tuple #[.int .i64 a, .int .i64 0]) ∧ w = w' := by
  have h1 : decide (9223372036854775807 < (a : Int)) = false := decide_eq_false (by omega)
  have h2 : wrap64 (a : Int) = (a : Int) := IntWalk.wrap64_in _ (by constructor <;> omega)
  go_enter Try.func84, Try.ntmps84
  go_wp2
  go_ret2
  exact ⟨rfl, rfl⟩
/-- The ratio, down or up. -/
def ratN (a b c : Nat) (up : Bool) : Nat := if up = true ∧ a * b % c ≠ 0 then a * b / c + 1 else a * b / c
set_option maxHeartbeats 1000000 in
set_option maxRecDepth 100000 in
theorem ratioN_any (a b c : Nat) (up : Bool) (w : World) (ha : a ≤ 9223372036854775807) (hb : b ≤ 9223372036854775807) (hc0 : 1 ≤ c) (hc : c ≤ 9223372036854775807) (hq : a * b / c < 9223372036854775807) :
    Calls Try.prog 65 #[.int .i64 a, .int .i64 b, .int .i64 c, .bool up] w fun e w' => e = .returned (.tuple #[.int .i64 (ratN a b c up), .int .i64 0]) ∧ Below w.heap.size w w' := by
  have h1 : decide ((a : Int) < 0) = false := decide_eq_false (by omega)
  have h2 : decide ((b : Int) < 0) = false := decide_eq_false (by omega)
  have h3 : decide ((c : Int) < 1) = false := decide_eq_false (by omega)
  have hw := w64_nat c (by omega)
  have HM := hide (Try.bits_Mul64 a b (by omega) (by omega))
  have hpq := (Nat.div_lt_iff_lt_mul (show 0 < c by omega)).1 hq
  have hhi : a * b / 18446744073709551616 < c := by rw [Nat.div_lt_iff_lt_mul (by omega)]; omega
  have HD := hide (fun w => div64_any (a * b / 18446744073709551616) (a * b % 18446744073709551616) c w (by omega) hhi (by omega))
  rw [show a * b / 18446744073709551616 * 18446744073709551616 + a * b % 18446744073709551616 = a * b by omega] at HD
  have HR : Hid (ratN a b c up = if up = true ∧ a * b % c ≠ 0 then a * b / c + 1 else a * b / c) := hide rfl
  generalize ratN a b c up = R at *
  have hrest : a * b % c < 18446744073709551616 := Nat.lt_trans (Nat.mod_lt _ (by omega)) (by omega)
  generalize a * b / 18446744073709551616 = H at *
  generalize a * b % 18446744073709551616 = L at *
  generalize a * b / c = Q at *
  generalize a * b % c = T at *
  have h4 : decide (c ≤ H) = false := decide_eq_false (by omega)
  have h5 : decide (9223372036854775808 < (Q : Int)) = false := decide_eq_false (by omega)
  clear hpq
  cases up with
  | false =>
    have hR := HR.out
    rw [if_neg (by simp)] at hR
    subst hR
    clear HR
    have HS := hide (fun w => signedN_any R w (by omega))
    go_enter Try.func65, Try.ntmps65
    go_wp2_with (first
      | (go_at_call 82; refine (sizeN_any _ _ (by assumption)).mono ?_; rintro e w' ⟨rfl, rfl⟩)
      | (go_at_call 81; refine (HM.out _).mono ?_; rintro e w' ⟨rfl, rfl⟩)
      | (go_at_call 83; refine (HD.out _).mono ?_; rintro e w1 ⟨rfl, hb1⟩)
      | (go_at_call 84; refine (HS.out _).mono ?_; rintro e w' ⟨rfl, rfl⟩))
    all_goals (go_ret2; exact ⟨rfl, hb1⟩)
  | true =>
    by_cases hT : T = 0
    · subst hT
      have hR := HR.out
      rw [if_neg (by simp)] at hR
      subst hR
      clear HR
      have HS := hide (fun w => signedN_any R w (by omega))
      go_enter Try.func65, Try.ntmps65
      go_wp2_with (first
      | (go_at_call 82; refine (sizeN_any _ _ (by assumption)).mono ?_; rintro e w' ⟨rfl, rfl⟩)
      | (go_at_call 81; refine (HM.out _).mono ?_; rintro e w' ⟨rfl, rfl⟩)
      | (go_at_call 83; refine (HD.out _).mono ?_; rintro e w1 ⟨rfl, hb1⟩)
      | (go_at_call 84; refine (HS.out _).mono ?_; rintro e w' ⟨rfl, rfl⟩))
      all_goals (go_ret2; exact ⟨rfl, hb1⟩)
    · have hR := HR.out
      rw [if_pos ⟨rfl, hT⟩] at hR
      have h6 : ((T : Int) == 0) = false := by rw [beq_eq_false_iff_ne]; omega
      have h7 : ((T : Int) != 0) = true := by rw [bne_iff_ne]; omega
      have hq1 : IntKind.u64.wrap ((Q : Int) + 1) = (R : Int) := by rw [hR, show (Q : Int) + 1 = ((Q + 1 : Nat) : Int) by omega, w64_nat _ (by omega)]
      have HS := hide (fun w => signedN_any R w (by omega))
      have HR2 := hide hR
      clear HR hT hR
      go_enter Try.func65, Try.ntmps65
      go_wp2_with (first
      | (go_at_call 82; refine (sizeN_any _ _ (by assumption)).mono ?_; rintro e w' ⟨rfl, rfl⟩)
      | (go_at_call 81; refine (HM.out _).mono ?_; rintro e w' ⟨rfl, rfl⟩)
      | (go_at_call 83; refine (HD.out _).mono ?_; rintro e w1 ⟨rfl, hb1⟩))
      refine (HS.out _).mono ?_
      rintro e w' ⟨rfl, rfl⟩
      go_wp2_with fail
      go_ret2
      exact ⟨rfl, hb1⟩
def okRate (r : Int) : Bool := decide (0 ≤ r ∧ r ≤ 100000)
theorem rate_any (r : Int) (w : World) : Calls Try.prog 64 #[.int .i64 r] w fun e w' => e = .returned (.bool (okRate r)) ∧ w = w' := by
  by_cases h : 0 ≤ r
  · have h1 : decide (0 ≤ r) = true := decide_eq_true h
    have HE := hide (show okRate r = decide (r ≤ 100000) by unfold okRate; simp [h])
    go_enter Try.func64, Try.ntmps64
    go_wp2
    go_ret
    exact ⟨ret_bool HE.out.symm, rfl⟩
  · have h1 : decide (0 ≤ r) = false := decide_eq_false h
    have HE := hide (show okRate r = false by unfold okRate; simp [h])
    go_enter Try.func64, Try.ntmps64
    go_wp2
    go_ret
    exact ⟨ret_bool HE.out.symm, rfl⟩
def lowZ (x r : Int) : Int := if 0 < x then max 1 (ratN (x - 1).toNat 1000000 (1000000 + r).toNat true : Int) else -(ratN (1 - x).toNat 1000000 (1000000 - r).toNat false : Int)
def slackZ (a r : Int) : Int := ratN a.toNat r.toNat (1000000 - r).toNat true
def nearX (x : Int) : Bool := decide (-4611686018427387904 ≤ x ∧ x ≤ 4611686018427387904)
theorem low_bound1 (x r : Int) (hx : 0 < x) (hx2 : x ≤ 4611686018427387904) (hr : 0 ≤ r) : (x - 1).toNat * 1000000 / (1000000 + r).toNat < 9223372036854775807 := by
  rw [Nat.div_lt_iff_lt_mul (by omega)]
  have h1 : 9223372036854775807 * 1000000 ≤ 9223372036854775807 * (1000000 + r).toNat := Nat.mul_le_mul_left _ (by omega)
  omega
theorem low_bound2 (x r : Int) (hx : x ≤ 0) (hx2 : -4611686018427387904 ≤ x) (hr : 0 ≤ r) (hr2 : r ≤ 100000) : (1 - x).toNat * 1000000 / (1000000 - r).toNat ≤ 5124095576030431006 := by
  refine Nat.le_of_lt_succ ((Nat.div_lt_iff_lt_mul (by omega)).2 ?_)
  have h1 : (5124095576030431006 + 1) * 900000 ≤ (5124095576030431006 + 1) * (1000000 - r).toNat := Nat.mul_le_mul_left _ (by omega)
  omega
theorem ratN_bounds (a b c : Nat) (up : Bool) : a * b / c ≤ ratN a b c up ∧ ratN a b c up ≤ a * b / c + 1 := by
  unfold ratN; split <;> omega
set_option maxHeartbeats 1000000 in
set_option maxRecDepth 100000 in
theorem low_ok (x r : Int) (w : World) (hx : nearX x = true) (hr : okRate r = true) :
    Calls Try.prog 34 #[.int .i64 x, .int .i64 r] w fun e w' => e = .returned (.tuple #[.int .i64 (lowZ x r), .int .i64 0]) ∧ Below w.heap.size w w' := by
  have hx' := of_decide_eq_true hx
  have hr' := of_decide_eq_true hr
  have HRT := hide (fun w => rate_any r w)
  rw [hr] at HRT
  have h1 : decide (x < -4611686018427387904) = false := decide_eq_false (by omega)
  have h2 : decide (4611686018427387904 < x) = false := decide_eq_false (by omega)
  clear hx hr
  by_cases h0 : 0 < x
  · have h3 : decide (0 < x) = true := decide_eq_true h0
    have HL : Hid (lowZ x r = max 1 (ratN (x - 1).toNat 1000000 (1000000 + r).toNat true : Int)) := hide (if_pos h0)
    have HRA := hide (fun w => ratioN_any (x - 1).toNat 1000000 (1000000 + r).toNat true w (by omega) (by omega) (by omega) (by omega) (low_bound1 x r h0 hx'.2 hr'.1))
    rw [show (((x - 1).toNat : Nat) : Int) = x - 1 by omega, show (((1000000 + r).toNat : Nat) : Int) = 1000000 + r by omega] at HRA
    generalize ratN (x - 1).toNat 1000000 (1000000 + r).toNat true = q at *
    have hle : -4611686018427387904 ≤ x ∧ x ≤ 4611686018427387904 := hx'
    have hl1 := hle.1
    have hl2 := hle.2
    have hr1 := hr'.1
    have hr2 := hr'.2
    clear hx' hr' hle
    go_enter Try.func34, Try.ntmps34
    go_wp2_with (first
      | (go_at_call 64; refine (HRT.out _).mono ?_; rintro e w' ⟨rfl, rfl⟩)
      | (go_at_call 65; refine (HRA.out _).mono ?_; rintro e w1 ⟨rfl, hb1⟩))
    go_ret2
    refine ⟨?_, hb1⟩
    rw [HL.out]
    rfl
  · have h3 : decide (0 < x) = false := decide_eq_false h0
    have HL : Hid (lowZ x r = -(ratN (1 - x).toNat 1000000 (1000000 - r).toNat false : Int)) := hide (if_neg h0)
    have hb := low_bound2 x r (by omega) hx'.1 hr'.1 hr'.2
    have hq := ratN_bounds (1 - x).toNat 1000000 (1000000 - r).toNat false
    have HRA := hide (fun w => ratioN_any (1 - x).toNat 1000000 (1000000 - r).toNat false w (by omega) (by omega) (by omega) (by omega) (by omega))
    rw [show (((1 - x).toNat : Nat) : Int) = 1 - x by omega, show (((1000000 - r).toNat : Nat) : Int) = 1000000 - r by omega] at HRA
    generalize (1 - x).toNat * 1000000 / (1000000 - r).toNat = d at *
    generalize ratN (1 - x).toNat 1000000 (1000000 - r).toNat false = q at *
    have hl1 := hx'.1
    have hl2 := hx'.2
    have hr1 := hr'.1
    have hr2 := hr'.2
    have hq2 : q ≤ 5124095576030431007 := by omega
    clear hx' hr' hb hq
    go_enter Try.func34, Try.ntmps34
    go_wp2_with (first
      | (go_at_call 64; refine (HRT.out _).mono ?_; rintro e w' ⟨rfl, rfl⟩)
      | (go_at_call 65; refine (HRA.out _).mono ?_; rintro e w1 ⟨rfl, hb1⟩))
    go_ret2
    refine ⟨?_, hb1⟩
    rw [HL.out]
    rfl
theorem lowZ_bounds (x r : Int) (hx : nearX x = true) (hr : okRate r = true) : -5124095576030431007 ≤ lowZ x r ∧ lowZ x r ≤ 4611686018427387904 := by
  have hx' := of_decide_eq_true hx
  have hr' := of_decide_eq_true hr
  unfold lowZ
  split
  · rename_i h
    have h1 : (x - 1).toNat * 1000000 / (1000000 + r).toNat ≤ (x - 1).toNat := by
      refine Nat.div_le_of_le_mul ?_
      rw [Nat.mul_comm]
      exact Nat.mul_le_mul_right _ (by omega)
    have h2 := ratN_bounds (x - 1).toNat 1000000 (1000000 + r).toNat true
    omega
  · have h1 := low_bound2 x r (by omega) hx'.1 hr'.1 hr'.2
    have h2 := ratN_bounds (1 - x).toNat 1000000 (1000000 - r).toNat false
    omega
set_option maxHeartbeats 1000000 in
set_option maxRecDepth 100000 in
theorem low_err (x r : Int) (w : World) (hx1 : -9223372036854775808 ≤ x) (hx2 : x ≤ 9223372036854775807) (h : nearX x = false ∨ okRate r = false) :
    Calls Try.prog 34 #[.int .i64 x, .int .i64 r] w fun e w' => e = .returned (.tuple #[.int .i64 0, .int .i64 11]) ∧ Below w.heap.size w w' := by
  by_cases c1 : x < -4611686018427387904
  · have h1 : decide (x < -4611686018427387904) = true := decide_eq_true c1
    go_enter Try.func34, Try.ntmps34
    go_wp2_with fail
    go_ret2
    exact ⟨rfl, Below.refl _ _⟩
  have h1 : decide (x < -4611686018427387904) = false := decide_eq_false c1
  by_cases c2 : 4611686018427387904 < x
  · have h2 : decide (4611686018427387904 < x) = true := decide_eq_true c2
    go_enter Try.func34, Try.ntmps34
    go_wp2_with fail
    go_ret2
    exact ⟨rfl, Below.refl _ _⟩
  have h2 : decide (4611686018427387904 < x) = false := decide_eq_false c2
  have hr : okRate r = false := h.resolve_left (by unfold nearX; simp; omega)
  have HRT := hide (fun w => rate_any r w)
  rw [hr] at HRT
  clear h hr
  go_enter Try.func34, Try.ntmps34
  go_wp2_with (go_at_call 64; refine (HRT.out _).mono ?_; rintro e w' ⟨rfl, rfl⟩)
  go_ret2
  exact ⟨rfl, Below.refl _ _⟩
def highZ (x r : Int) : Int := -lowZ (-x) r
set_option maxHeartbeats 1000000 in
set_option maxRecDepth 100000 in
theorem high_ok (x r : Int) (w : World) (hx : nearX x = true) (hr : okRate r = true) :
    Calls Try.prog 35 #[.int .i64 x, .int .i64 r] w fun e w' => e = .returned (.tuple #[.int .i64 (highZ x r), .int .i64 0]) ∧ Below w.heap.size w w' := by
  have hx' := of_decide_eq_true hx
  have h1 : decide (x < -4611686018427387904) = false := decide_eq_false (by omega)
  have h2 : decide (4611686018427387904 < x) = false := decide_eq_false (by omega)
  have hnx : nearX (-x) = true := by unfold nearX; rw [decide_eq_true_eq]; omega
  have HLO := hide (fun w => low_ok (-x) r w hnx hr)
  have hbd := lowZ_bounds (-x) r hnx hr
  have HH : Hid (highZ x r = -lowZ (-x) r) := hide rfl
  generalize highZ x r = H at *
  generalize lowZ (-x) r = L at *
  have hb1 := hbd.1
  have hb2 := hbd.2
  have hl1 := hx'.1
  have hl2 := hx'.2
  clear hbd hx hr hnx hx'
  go_enter Try.func35, Try.ntmps35
  go_wp2_with (go_at_call 34; refine (HLO.out _).mono ?_; rintro e w1 ⟨rfl, hbw⟩)
  go_ret2
  exact ⟨by rw [HH.out]; rfl, hbw⟩
set_option maxHeartbeats 1000000 in
set_option maxRecDepth 100000 in
theorem high_err (x r : Int) (w : World) (hx1 : -9223372036854775808 ≤ x) (hx2 : x ≤ 9223372036854775807) (h : nearX x = false ∨ okRate r = false) :
    Calls Try.prog 35 #[.int .i64 x, .int .i64 r] w fun e w' => e = .returned (.tuple #[.int .i64 0, .int .i64 11]) ∧ Below w.heap.size w w' := by
  by_cases c1 : x < -4611686018427387904
  · have h1 : decide (x < -4611686018427387904) = true := decide_eq_true c1
    go_enter Try.func35, Try.ntmps35
    go_wp2_with fail
    go_ret2
    exact ⟨rfl, Below.refl _ _⟩
  have h1 : decide (x < -4611686018427387904) = false := decide_eq_false c1
  by_cases c2 : 4611686018427387904 < x
  · have h2 : decide (4611686018427387904 < x) = true := decide_eq_true c2
    go_enter Try.func35, Try.ntmps35
    go_wp2_with fail
    go_ret2
    exact ⟨rfl, Below.refl _ _⟩
  have h2 : decide (4611686018427387904 < x) = false := decide_eq_false c2
  have hr : okRate r = false := h.resolve_left (by unfold nearX; simp; omega)
  have HLO := hide (fun w => low_err (-x) r w (by omega) (by omega) (.inr hr))
  clear h hr
  go_enter Try.func35, Try.ntmps35
  go_wp2_with (go_at_call 34; refine (HLO.out _).mono ?_; rintro e w1 ⟨rfl, hbw⟩)
  go_ret2
  exact ⟨rfl, hbw⟩
def farA (a : Int) : Bool := decide (0 ≤ a ∧ a ≤ 4611686018427387904)
set_option maxHeartbeats 1000000 in
set_option maxRecDepth 100000 in
theorem slack_ok (a r : Int) (w : World) (ha : farA a = true) (hr : okRate r = true) :
    Calls Try.prog 31 #[.int .i64 a, .int .i64 r] w fun e w' => e = .returned (.tuple #[.int .i64 (slackZ a r), .int .i64 0]) ∧ Below w.heap.size w w' := by
  have ha' := of_decide_eq_true ha
  have hr' := of_decide_eq_true hr
  have HRT := hide (fun w => rate_any r w)
  rw [hr] at HRT
  have h1 : decide (a < 0) = false := decide_eq_false (by omega)
  have h2 : decide (4611686018427387904 < a) = false := decide_eq_false (by omega)
  have hbd : a.toNat * r.toNat / (1000000 - r).toNat < 9223372036854775807 := by
    rw [Nat.div_lt_iff_lt_mul (by omega)]
    have h5 : a.toNat * r.toNat ≤ 4611686018427387904 * 100000 := Nat.mul_le_mul (by omega) (by omega)
    have h6 : 9223372036854775807 * 900000 ≤ 9223372036854775807 * (1000000 - r).toNat := Nat.mul_le_mul_left _ (by omega)
    omega
  have HRA := hide (fun w => ratioN_any a.toNat r.toNat (1000000 - r).toNat true w (by omega) (by omega) (by omega) (by omega) hbd)
  rw [show ((a.toNat : Nat) : Int) = a by omega, show ((r.toNat : Nat) : Int) = r by omega, show (((1000000 - r).toNat : Nat) : Int) = 1000000 - r by omega] at HRA
  have HL : Hid (slackZ a r = (ratN a.toNat r.toNat (1000000 - r).toNat true : Int)) := hide rfl
  generalize ratN a.toNat r.toNat (1000000 - r).toNat true = q at *
  generalize slackZ a r = sl at *
  have hr1 := hr'.1
  have hr2 := hr'.2
  clear ha ha' hr hr' hbd
  go_enter Try.func31, Try.ntmps31
  go_wp2_with (first
    | (go_at_call 64; refine (HRT.out _).mono ?_; rintro e w' ⟨rfl, rfl⟩)
    | (go_at_call 65; refine (HRA.out _).mono ?_; rintro e w1 ⟨rfl, hb1⟩))
  go_ret2
  exact ⟨by rw [HL.out]; rfl, hb1⟩
end Go.Proofs.Ytgidaifoiljgoaa
/- safe.Add. -/
namespace Go.Proofs.Ytgidaifoiljgoaa
open Go.RowKit
set_option linter.unusedVariables false
set_option linter.unusedSimpArgs false
theorem toInt_i64 (x : BitVec 64) : IntKind.i64.wrap (x.toNat : Int) = x.toInt := by
  have h := x.isLt
  rw [IntKind.wrap_i64, BitVec.toInt_eq_toNat_cond]
  split <;> omega
theorem xor_toInt (a b : Int) : bits .xor .i64 a b = (BitVec.ofInt 64 a ^^^ BitVec.ofInt 64 b).toInt := by
  rw [← toInt_i64]; rfl
theorem and_toInt (a b : Int) : bits .and .i64 a b = (BitVec.ofInt 64 a &&& BitVec.ofInt 64 b).toInt := by
  rw [← toInt_i64]; rfl
theorem msb_in (a : Int) (h1 : -9223372036854775808 ≤ a) (h2 : a ≤ 9223372036854775807) : (BitVec.ofInt 64 a).msb = decide (a < 0) := by
  rw [BitVec.msb_eq_toInt, BitVec.toInt_ofInt]
  have : a.bmod (2 ^ 64) = a := by
    unfold Int.bmod
    simp only []
    split <;> omega
  rw [this]
theorem over_sign (a b s : Int) (a1 : -9223372036854775808 ≤ a) (a2 : a ≤ 9223372036854775807) (b1 : -9223372036854775808 ≤ b) (b2 : b ≤ 9223372036854775807) (s1 : -9223372036854775808 ≤ s) (s2 : s ≤ 9223372036854775807) :
    decide (bits .and .i64 (bits .xor .i64 a s) (bits .xor .i64 b s) < 0) = ((decide (a < 0) ^^ decide (s < 0)) && (decide (b < 0) ^^ decide (s < 0))) := by
  rw [and_toInt, ← BitVec.msb_eq_toInt, BitVec.msb_and, xor_toInt, xor_toInt, BitVec.ofInt_toInt, BitVec.ofInt_toInt, BitVec.msb_xor, BitVec.msb_xor, msb_in a a1 a2, msb_in b b1 b2, msb_in s s1 s2]
theorem over_add (a b : Int) (a1 : -9223372036854775808 ≤ a) (a2 : a ≤ 9223372036854775807) (b1 : -9223372036854775808 ≤ b) (b2 : b ≤ 9223372036854775807) :
    decide (bits .and .i64 (bits .xor .i64 a (wrap64 (a + b))) (bits .xor .i64 b (wrap64 (a + b))) < 0) = decide (a + b < -9223372036854775808 ∨ 9223372036854775807 < a + b) := by
  have hw : wrap64 (a + b) = (a + b + 9223372036854775808) % 18446744073709551616 - 9223372036854775808 := by unfold wrap64; omega
  generalize wrap64 (a + b) = s at *
  rw [over_sign a b s a1 a2 b1 b2 (by omega) (by omega)]
  by_cases h1 : a < 0 <;> by_cases h2 : b < 0 <;> by_cases h3 : s < 0 <;> simp [h1, h2, h3] <;> omega
def addR (a b : Int) : Int × Nat := if a + b < -9223372036854775808 ∨ 9223372036854775807 < a + b then (0, 12) else (a + b, 0)
set_option maxRecDepth 100000 in
theorem safeAdd_any (a b : Int) (w : World) (a1 : -9223372036854775808 ≤ a) (a2 : a ≤ 9223372036854775807) (b1 : -9223372036854775808 ≤ b) (b2 : b ≤ 9223372036854775807) :
    Calls Try.prog 60 #[.int .i64 a, .int .i64 b] w fun e w' => e = .returned (.tuple #[.int .i64 (addR a b).1, .int .i64 (addR a b).2]) ∧ w = w' := by
  have HO := over_add a b a1 a2 b1 b2
  have HR : Hid (addR a b = if a + b < -9223372036854775808 ∨ 9223372036854775807 < a + b then (0, 12) else (a + b, 0)) := hide rfl
  generalize addR a b = R at *
  by_cases c : a + b < -9223372036854775808 ∨ 9223372036854775807 < a + b
  · rw [decide_eq_true c] at HO
    rw [if_pos c] at HR
    clear c
    go_enter Try.func60, Try.ntmps60
    go_wp2
    go_ret2
    exact ⟨by rw [HR.out]; rfl, rfl⟩
  · rw [decide_eq_false c] at HO
    rw [if_neg c] at HR
    have hw : wrap64 (a + b) = a + b := IntWalk.wrap64_in _ (by constructor <;> omega)
    have HW := hide hw
    clear c hw
    go_enter Try.func60, Try.ntmps60
    go_wp2
    go_ret2
    refine ⟨?_, rfl⟩
    rw [HR.out]
    show Ending.returned (.tuple #[.int .i64 (wrap64 (a + b)), .int .i64 0]) = _
    rw [HW.out]
    rfl
end Go.Proofs.Ytgidaifoiljgoaa
/- Gaps: Right, Has. -/
namespace Go.Proofs.Ytgidaifoiljgoaa
open Go.RowKit
set_option linter.unusedVariables false
set_option linter.unusedSimpArgs false
def gv (lo hi : Int) : Array Value := #[.int .i64 lo, .int .i64 hi]
theorem info100 : (Try.prog.info? 39).map (·.size) = some 2 := by kernel_rfl
theorem gv_one (lo hi : Int) : (gv lo hi).all (·.oneCell') = true := by
  rw [Array.all_eq_true_iff_forall_mem]
  intro v hv
  simp only [gv, List.mem_toArray, List.mem_cons, List.not_mem_nil, or_false] at hv
  rcases hv with rfl | rfl <;> rfl
theorem gapRight_any (lo hi : Int) (w : World) : Calls Try.prog 46 #[.agg (gv lo hi)] w fun e w' => e = .returned (.bool (decide (lo ≤ hi))) ∧ Below w.heap.size w w' := by
  unfold gv
  go_enter Try.func46, Try.ntmps46
  go_wp2
  go_ret
  exact ⟨rfl, (Below.refl _ _).alloc (Nat.le_refl _) _⟩
theorem gapHas_any (lo hi x : Int) (w : World) : Calls Try.prog 39 #[.agg (gv lo hi), .int .i64 x] w fun e w' => e = .returned (.bool (decide (lo ≤ x ∧ x ≤ hi))) ∧ Below w.heap.size w w' := by
  unfold gv
  by_cases h : lo ≤ x
  · have hb : decide (lo ≤ x) = true := decide_eq_true h
    go_enter Try.func39, Try.ntmps39
    go_wp2
    go_ret
    exact ⟨ret_bool (by simp [h]), (Below.refl _ _).alloc (Nat.le_refl _) _⟩
  · have hb : decide (lo ≤ x) = false := decide_eq_false h
    go_enter Try.func39, Try.ntmps39
    go_wp2
    go_ret
    exact ⟨ret_bool (by simp [h]), (Below.refl _ _).alloc (Nat.le_refl _) _⟩
end Go.Proofs.Ytgidaifoiljgoaa
/- clock.Sample: Right, Trip, At. -/
namespace Go.Proofs.Ytgidaifoiljgoaa
open Go.RowKit
set_option linter.unusedVariables false
set_option linter.unusedSimpArgs false
structure Smp where
  asked : Int
  got : Int
  sent : Int
  came : Int
deriving DecidableEq
def smv (s : Smp) : Array Value := #[.int .i64 s.asked, .int .i64 s.got, .int .i64 s.sent, .int .i64 s.came]
def isT (t : Int) : Bool := decide (0 ≤ t ∧ t ≤ 4611686018427387903)
def okS (s : Smp) : Bool := isT s.asked && isT s.got && isT s.sent && isT s.came && decide (s.asked ≤ s.came) && decide (s.got ≤ s.sent)
theorem isTime_any (t : Int) (w : World) : Calls Try.prog 51 #[.int .i64 t] w fun e w' => e = .returned (.bool (isT t)) ∧ w = w' := by
  by_cases h : 0 ≤ t
  · have h1 : decide (0 ≤ t) = true := decide_eq_true h
    have HE := hide (show isT t = decide (t ≤ 4611686018427387903) by unfold isT; simp [h])
    go_enter Try.func51, Try.ntmps51
    go_wp2
    go_ret
    exact ⟨ret_bool HE.out.symm, rfl⟩
  · have h1 : decide (0 ≤ t) = false := decide_eq_false h
    have HE := hide (show isT t = false by unfold isT; simp [h])
    go_enter Try.func51, Try.ntmps51
    go_wp2
    go_ret
    exact ⟨ret_bool HE.out.symm, rfl⟩
theorem isRate_any (r : Int) (w : World) : Calls Try.prog 42 #[.int .i64 r] w fun e w' => e = .returned (.bool (okRate r)) ∧ w = w' := by
  by_cases h : 0 ≤ r
  · have h1 : decide (0 ≤ r) = true := decide_eq_true h
    have HE := hide (show okRate r = decide (r ≤ 100000) by unfold okRate; simp [h])
    go_enter Try.func42, Try.ntmps42
    go_wp2
    go_ret
    exact ⟨ret_bool HE.out.symm, rfl⟩
  · have h1 : decide (0 ≤ r) = false := decide_eq_false h
    have HE := hide (show okRate r = false by unfold okRate; simp [h])
    go_enter Try.func42, Try.ntmps42
    go_wp2
    go_ret
    exact ⟨ret_bool HE.out.symm, rfl⟩
set_option maxHeartbeats 1000000 in
set_option maxRecDepth 100000 in
theorem right_any (s : Smp) (w : World) : Calls Try.prog 25 #[.agg (smv s)] w fun e w' => e = .returned (.bool (okS s)) ∧ Below w.heap.size w w' := by
  obtain ⟨a, g, t, c⟩ := s
  have HO : Hid (okS ⟨a, g, t, c⟩ = (isT a && isT g && isT t && isT c && decide (a ≤ c) && decide (g ≤ t))) := hide rfl
  have HA := hide (fun w => isTime_any a w)
  have HG := hide (fun w => isTime_any g w)
  have HT := hide (fun w => isTime_any t w)
  have HC := hide (fun w => isTime_any c w)
  generalize okS ⟨a, g, t, c⟩ = r at *
  generalize isT a = ta at *
  generalize isT g = tg at *
  generalize isT t = tt at *
  generalize isT c = tc at *
  unfold smv
  simp only []
  cases ta with
  | false =>
    go_enter Try.func25, Try.ntmps25
    go_wp2_with fail
    refine (HA.out _).mono ?_
    rintro e w' ⟨rfl, hw⟩
    subst hw
    go_wp2_with fail
    go_ret
    exact ⟨ret_bool (by rw [HO.out]; simp), (Below.refl _ _).alloc (Nat.le_refl _) _⟩
  | true =>
    cases tg with
    | false =>
      go_enter Try.func25, Try.ntmps25
      go_wp2_with fail
      refine (HA.out _).mono ?_
      rintro e w' ⟨rfl, hw⟩
      subst hw
      go_wp2_with fail
      refine (HG.out _).mono ?_
      rintro e w' ⟨rfl, hw⟩
      subst hw
      go_wp2_with fail
      go_ret
      exact ⟨ret_bool (by rw [HO.out]; simp), (Below.refl _ _).alloc (Nat.le_refl _) _⟩
    | true =>
      cases tt with
      | false =>
        go_enter Try.func25, Try.ntmps25
        go_wp2_with fail
        refine (HA.out _).mono ?_
        rintro e w' ⟨rfl, hw⟩
        subst hw
        go_wp2_with fail
        refine (HG.out _).mono ?_
        rintro e w' ⟨rfl, hw⟩
        subst hw
        go_wp2_with fail
        refine (HT.out _).mono ?_
        rintro e w' ⟨rfl, hw⟩
        subst hw
        go_wp2_with fail
        go_ret
        exact ⟨ret_bool (by rw [HO.out]; simp), (Below.refl _ _).alloc (Nat.le_refl _) _⟩
      | true =>
        cases tc with
        | false =>
          go_enter Try.func25, Try.ntmps25
          go_wp2_with fail
          refine (HA.out _).mono ?_
          rintro e w' ⟨rfl, hw⟩
          subst hw
          go_wp2_with fail
          refine (HG.out _).mono ?_
          rintro e w' ⟨rfl, hw⟩
          subst hw
          go_wp2_with fail
          refine (HT.out _).mono ?_
          rintro e w' ⟨rfl, hw⟩
          subst hw
          go_wp2_with fail
          refine (HC.out _).mono ?_
          rintro e w' ⟨rfl, hw⟩
          subst hw
          go_wp2_with fail
          go_ret
          exact ⟨ret_bool (by rw [HO.out]; simp), (Below.refl _ _).alloc (Nat.le_refl _) _⟩
        | true =>
          by_cases h0 : a ≤ c
          · have d0 : decide (a ≤ c) = true := decide_eq_true h0
            rw [d0] at HO
            have d1 : Hid (r = decide (g ≤ t)) := hide (by rw [HO.out]; simp)
            go_enter Try.func25, Try.ntmps25
            go_wp2_with fail
            refine (HA.out _).mono ?_
            rintro e w' ⟨rfl, hw⟩
            subst hw
            go_wp2_with fail
            refine (HG.out _).mono ?_
            rintro e w' ⟨rfl, hw⟩
            subst hw
            go_wp2_with fail
            refine (HT.out _).mono ?_
            rintro e w' ⟨rfl, hw⟩
            subst hw
            go_wp2_with fail
            refine (HC.out _).mono ?_
            rintro e w' ⟨rfl, hw⟩
            subst hw
            go_wp2_with fail
            go_ret
            exact ⟨ret_bool (by rw [d1.out]), (Below.refl _ _).alloc (Nat.le_refl _) _⟩
          · have d0 : decide (a ≤ c) = false := decide_eq_false h0
            rw [d0] at HO
            go_enter Try.func25, Try.ntmps25
            go_wp2_with fail
            refine (HA.out _).mono ?_
            rintro e w' ⟨rfl, hw⟩
            subst hw
            go_wp2_with fail
            refine (HG.out _).mono ?_
            rintro e w' ⟨rfl, hw⟩
            subst hw
            go_wp2_with fail
            refine (HT.out _).mono ?_
            rintro e w' ⟨rfl, hw⟩
            subst hw
            go_wp2_with fail
            refine (HC.out _).mono ?_
            rintro e w' ⟨rfl, hw⟩
            subst hw
            go_wp2_with fail
            go_ret
            exact ⟨ret_bool (by rw [HO.out]; simp), (Below.refl _ _).alloc (Nat.le_refl _) _⟩
/-- The sample's interval at a stamp. -/
def atLo (s : Smp) (stamp rho : Int) : Int := max (s.asked + lowZ (stamp - s.got) rho) 0
def atHi (s : Smp) (stamp rho : Int) : Int := min (s.came + highZ (stamp - s.sent) rho) 4611686018427387903
def atR (s : Smp) (stamp rho : Int) : (Int × Int) × Nat :=
  if okS s = false then ((0, 0), 10) else if isT stamp = false ∨ okRate rho = false then ((0, 0), 11) else if atHi s stamp rho < atLo s stamp rho then ((0, 0), 13) else ((atLo s stamp rho, atHi s stamp rho), 0)
end Go.Proofs.Ytgidaifoiljgoaa
/- clock.Sample.At. -/
namespace Go.Proofs.Ytgidaifoiljgoaa
open Go.RowKit
set_option linter.unusedVariables false
set_option linter.unusedSimpArgs false
theorem infoS : (Try.prog.info? 33).map (·.size) = some 4 := by kernel_rfl
theorem lowIn (s : Smp) (stamp rho : Int) (hs : okS s = true) (ht : isT stamp = true) (hr : okRate rho = true) : nearX (stamp - s.got) = true ∧ nearX (stamp - s.sent) = true := by
  unfold okS isT at hs
  unfold isT at ht
  simp only [Bool.and_eq_true, decide_eq_true_eq] at hs ht
  unfold nearX
  rw [decide_eq_true_eq, decide_eq_true_eq]
  omega
set_option maxHeartbeats 1000000 in
set_option maxRecDepth 100000 in
theorem at_any (s : Smp) (stamp rho : Int) (w : World) (hst1 : -9223372036854775808 ≤ stamp) (hst2 : stamp ≤ 9223372036854775807) :
    Calls Try.prog 24 #[.agg (smv s), .int .i64 stamp, .int .i64 rho] w fun e w' => e = .returned (.tuple #[.agg (gv (atR s stamp rho).1.1 (atR s stamp rho).1.2), .int .i64 (atR s stamp rho).2]) ∧ Below w.heap.size w w' := by
  have K0 := hide (((Blks.nil w).new 33 (smv s)).new 39 (gv 0 0))
  rw [World.size_alloc] at K0
  have B0 := hide (show Below w.heap.size w ((w.alloc (.cells (smv s) 33)).alloc (.cells (gv 0 0) 39)) from ((Below.refl _ _).alloc (Nat.le_refl _) _).alloc (by simp) _)
  have HS := hide (fun w => right_any s w)
  have HRr : Hid (atR s stamp rho = if okS s = false then ((0, 0), 10) else if isT stamp = false ∨ okRate rho = false then ((0, 0), 11) else if atHi s stamp rho < atLo s stamp rho then ((0, 0), 13) else ((atLo s stamp rho, atHi s stamp rho), 0)) := hide rfl
  have HR := HRr
  clear HRr
  cases hs : okS s with
  | false =>
    rw [hs] at HS
    rw [if_pos hs] at HR
    generalize atR s stamp rho = R at *
    clear hs
    go_enter Try.func24, Try.ntmps24
    go_wp2_with (refine pause (.load 33 _) rfl ?_)
    refine unpause ?_
    refine wpList_load_blk rfl 33 (.tmp 3) rfl w.heap.size rfl (smv s) _ (K0.out.get 1 rfl) Try.underlying33 rfl infoS ?_
    go_wp2_with fail
    refine (HS.out _).mono ?_
    rintro e w1 ⟨rfl, hb1⟩
    have K1 := hide (K0.out.next hb1)
    have B1 := hide (B0.out.trans (hb1.mono B0.out.size))
    clear hb1 K0 B0
    go_wp2_with (refine pause (.store 39 _ _) rfl ?_)
    refine unpause ?_
    refine wpList_store_blk rfl 39 (.tmp 6) (.tmp 18) rfl (w.heap.size + 1) rfl (gv 0 0) (gv 0 0) rfl (K1.out.get 0 rfl) rfl info100 (gv_one _ _) ?_
    go_wp2_with fail
    refine bodyPost_ret_by (results_cell2 rfl _ (w.heap.size + 1) rfl (gv 0 0) _ ((K1.out.get 0 rfl).setRow _) Try.underlying39 rfl info100) rfl ⟨?_, below_setRow B1.out (by omega) _⟩
    rw [HR.out]
    rfl
  | true =>
    rw [hs] at HS
    rw [if_neg (by rw [hs]; simp)] at HR
    have HT := hide (fun w => isTime_any stamp w)
    have HRT := hide (fun w => isRate_any rho w)
    have hin := lowIn s stamp rho hs
    have hsb := hs
    unfold okS isT at hsb
    simp only [Bool.and_eq_true, decide_eq_true_eq] at hsb
    clear hs
    cases ht : isT stamp with
    | false =>
      rw [ht] at HT
      rw [if_pos (.inl ht)] at HR
      generalize atR s stamp rho = R at *
      clear ht hin
      go_enter Try.func24, Try.ntmps24
      go_wp2_with (refine pause (.load 33 _) rfl ?_)
      refine unpause ?_
      refine wpList_load_blk rfl 33 (.tmp 3) rfl w.heap.size rfl (smv s) _ (K0.out.get 1 rfl) Try.underlying33 rfl infoS ?_
      go_wp2_with fail
      refine (HS.out _).mono ?_
      rintro e w1 ⟨rfl, hb1⟩
      have K1 := hide (K0.out.next hb1)
      have B1 := hide (B0.out.trans (hb1.mono B0.out.size))
      clear hb1 K0 B0
      go_wp2_with fail
      refine (HT.out _).mono ?_
      rintro e w' ⟨rfl, hw⟩
      subst hw
      go_wp2_with (refine pause (.store 39 _ _) rfl ?_)
      refine unpause ?_
      refine wpList_store_blk rfl 39 (.tmp 6) (.tmp 27) rfl (w.heap.size + 1) rfl (gv 0 0) (gv 0 0) rfl (K1.out.get 0 rfl) rfl info100 (gv_one _ _) ?_
      go_wp2_with fail
      refine bodyPost_ret_by (results_cell2 rfl _ (w.heap.size + 1) rfl (gv 0 0) _ ((K1.out.get 0 rfl).setRow _) Try.underlying39 rfl info100) rfl ⟨?_, below_setRow B1.out (by omega) _⟩
      rw [HR.out]
      rfl
    | true =>
      rw [ht] at HT
      cases hr : okRate rho with
      | false =>
        rw [hr] at HRT
        rw [if_pos (.inr hr)] at HR
        generalize atR s stamp rho = R at *
        clear ht hin hr
        go_enter Try.func24, Try.ntmps24
        go_wp2_with (refine pause (.load 33 _) rfl ?_)
        refine unpause ?_
        refine wpList_load_blk rfl 33 (.tmp 3) rfl w.heap.size rfl (smv s) _ (K0.out.get 1 rfl) Try.underlying33 rfl infoS ?_
        go_wp2_with fail
        refine (HS.out _).mono ?_
        rintro e w1 ⟨rfl, hb1⟩
        have K1 := hide (K0.out.next hb1)
        have B1 := hide (B0.out.trans (hb1.mono B0.out.size))
        clear hb1 K0 B0
        go_wp2_with fail
        refine (HT.out _).mono ?_
        rintro e w' ⟨rfl, hw⟩
        subst hw
        go_wp2_with fail
        refine (HRT.out _).mono ?_
        rintro e w' ⟨rfl, hw⟩
        subst hw
        go_wp2_with (refine pause (.store 39 _ _) rfl ?_)
        refine unpause ?_
        refine wpList_store_blk rfl 39 (.tmp 6) (.tmp 27) rfl (w.heap.size + 1) rfl (gv 0 0) (gv 0 0) rfl (K1.out.get 0 rfl) rfl info100 (gv_one _ _) ?_
        go_wp2_with fail
        refine bodyPost_ret_by (results_cell2 rfl _ (w.heap.size + 1) rfl (gv 0 0) _ ((K1.out.get 0 rfl).setRow _) Try.underlying39 rfl info100) rfl ⟨?_, below_setRow B1.out (by omega) _⟩
        rw [HR.out]
        rfl
      | true =>
        rw [hr] at HRT
        rw [if_neg (by rw [ht, hr]; simp)] at HR
        obtain ⟨hn1, hn2⟩ := hin ht hr
        have HLO := hide (fun w => low_ok (stamp - s.got) rho w hn1 hr)
        have HHI := hide (fun w => high_ok (stamp - s.sent) rho w hn2 hr)
        have hlb := lowZ_bounds (stamp - s.got) rho hn1 hr
        have hhb := lowZ_bounds (-(stamp - s.sent)) rho (by unfold nearX at hn2 ⊢; rw [decide_eq_true_eq] at hn2 ⊢; omega) hr
        have hhb2 : -4611686018427387904 ≤ highZ (stamp - s.sent) rho ∧ highZ (stamp - s.sent) rho ≤ 5124095576030431007 := by unfold highZ; omega
        have hL : Hid (atLo s stamp rho = max (s.asked + lowZ (stamp - s.got) rho) 0) := hide rfl
        have hH : Hid (atHi s stamp rho = min (s.came + highZ (stamp - s.sent) rho) 4611686018427387903) := hide rfl
        have htb := of_decide_eq_true ht
        generalize atR s stamp rho = R at *
        generalize atLo s stamp rho = lo at *
        generalize atHi s stamp rho = hi at *
        generalize lowZ (stamp - s.got) rho = L at *
        generalize highZ (stamp - s.sent) rho = H at *
        have HA := hide (fun w => safeAdd_any s.came H w (by omega) (by omega) (by omega) (by omega))
        obtain ⟨⟨⟨⟨⟨⟨a1, a2⟩, g1, g2⟩, t1, t2⟩, c1, c2⟩, hac⟩, hgt⟩ := hsb
        have hl1 := hlb.1
        have hl2 := hlb.2
        have hh1 := hhb2.1
        have hh2 := hhb2.2
        have ht1 := htb.1
        have ht2 := htb.2
        clear hn1 hn2 hlb hhb hhb2 ht hr htb hac hgt hin
        go_enter Try.func24, Try.ntmps24
        go_wp2_with (refine pause (.load 33 _) rfl ?_)
        refine unpause ?_
        refine wpList_load_blk rfl 33 (.tmp 3) rfl w.heap.size rfl (smv s) _ (K0.out.get 1 rfl) Try.underlying33 rfl infoS ?_
        go_wp2_with fail
        refine (HS.out _).mono ?_
        rintro e w1 ⟨rfl, hb1⟩
        have K1 := hide (K0.out.next hb1)
        have B1 := hide (B0.out.trans (hb1.mono B0.out.size))
        clear hb1 K0 B0
        go_wp2_with fail
        refine (HT.out _).mono ?_
        rintro e w' ⟨rfl, hw⟩
        subst hw
        go_wp2_with fail
        refine (HRT.out _).mono ?_
        rintro e w' ⟨rfl, hw⟩
        subst hw
        have k0 := K1.out.get 1 rfl
        have d0 := k0.cell 0
        have d1 := k0.cell 1
        have d2 := k0.cell 2
        have d3 := k0.cell 3
        simp only [smv, List.getElem?_toArray, List.getElem?_cons_zero, List.getElem?_cons_succ] at d0 d1 d2 d3
        clear k0
        go_wp2_with fail
        refine (HLO.out _).mono ?_
        rintro e w2 ⟨rfl, hb2⟩
        have K2 := hide (K1.out.next hb2)
        have B2 := hide (B1.out.trans (hb2.mono B1.out.size))
        clear hb2 K1 B1
        clear d0 d1 d2 d3
        have k0 := K2.out.get 1 rfl
        have d0 := k0.cell 0
        have d1 := k0.cell 1
        have d2 := k0.cell 2
        have d3 := k0.cell 3
        simp only [smv, List.getElem?_toArray, List.getElem?_cons_zero, List.getElem?_cons_succ] at d0 d1 d2 d3
        clear k0
        go_wp2_with fail
        refine (HHI.out _).mono ?_
        rintro e w3 ⟨rfl, hb3⟩
        have K3 := hide (K2.out.next hb3)
        have B3 := hide (B2.out.trans (hb3.mono B2.out.size))
        clear hb3 K2 B2
        clear d0 d1 d2 d3
        have k0 := K3.out.get 1 rfl
        have d0 := k0.cell 0
        have d1 := k0.cell 1
        have d2 := k0.cell 2
        have d3 := k0.cell 3
        simp only [smv, List.getElem?_toArray, List.getElem?_cons_zero, List.getElem?_cons_succ] at d0 d1 d2 d3
        clear k0
        go_wp2_with fail
        rw [← hL.out]
        by_cases ov : 9223372036854775807 < s.came + H
        · rw [show addR s.came H = (0, 12) from if_pos (.inr ov)] at HA
          have hhi : hi = 4611686018427387903 := by rw [hH.out]; omega
          subst hhi
          refine (HA.out _).mono ?_
          rintro e w' ⟨rfl, hw⟩
          subst hw
          go_upto_region 12 with (fail)
          have hlt2 : (4611686018427387903 : Int) < lo → R = ((0, 0), 13) := fun h => by rw [HR.out, if_pos h]
          have hge2 : ¬ (4611686018427387903 : Int) < lo → R = ((lo, (4611686018427387903 : Int)), 0) := fun h => by rw [HR.out, if_neg h]
          clear HR
          by_cases hc : (4611686018427387903 : Int) < lo
          · have HR := hide (hlt2 hc)
            have hd : decide ((4611686018427387903 : Int) < lo) = true := decide_eq_true hc
            clear hlt2 hge2 hc d0 d1 d2 d3
            go_wp2_with (refine pause (.store 39 _ _) rfl ?_)
            refine unpause ?_
            refine wpList_store_blk rfl 39 (.tmp 6) (.tmp 65) rfl (w.heap.size + 1) rfl (gv 0 0) (gv 0 0) rfl (K3.out.get 0 rfl) rfl info100 (gv_one _ _) ?_
            go_wp2_with fail
            refine bodyPost_ret_by (results_cell2 rfl _ (w.heap.size + 1) rfl (gv 0 0) _ ((K3.out.get 0 rfl).setRow _) Try.underlying39 rfl info100) rfl ⟨?_, below_setRow B3.out (by omega) _⟩
            rw [HR.out]
            rfl
          · have HR := hide (hge2 hc)
            have hd : decide ((4611686018427387903 : Int) < lo) = false := decide_eq_false hc
            clear hlt2 hge2 hc d0 d1 d2 d3
            go_wp2_with (refine pause (.store 39 _ _) rfl ?_)
            refine unpause ?_
            refine wpList_store_blk rfl 39 (.tmp 6) (.tmp 68) rfl (w.heap.size + 1) rfl (gv 0 0) (gv lo (4611686018427387903 : Int)) rfl (K3.out.get 0 rfl) rfl info100 (gv_one _ _) ?_
            go_wp2_with fail
            refine bodyPost_ret_by (results_cell2 rfl _ (w.heap.size + 1) rfl (gv lo (4611686018427387903 : Int)) _ ((K3.out.get 0 rfl).setRow _) Try.underlying39 rfl info100) rfl ⟨?_, below_setRow B3.out (by omega) _⟩
            rw [HR.out]
            rfl
        · rw [show addR s.came H = (s.came + H, 0) from if_neg (by omega)] at HA
          refine (HA.out _).mono ?_
          rintro e w' ⟨rfl, hw⟩
          subst hw
          go_upto_region 12 with (fail)
          rw [← hH.out]
          have hlt2 : hi < lo → R = ((0, 0), 13) := fun h => by rw [HR.out, if_pos h]
          have hge2 : ¬ hi < lo → R = ((lo, hi), 0) := fun h => by rw [HR.out, if_neg h]
          clear HR
          by_cases hc : hi < lo
          · have HR := hide (hlt2 hc)
            have hd : decide (hi < lo) = true := decide_eq_true hc
            clear hlt2 hge2 hc d0 d1 d2 d3
            go_wp2_with (refine pause (.store 39 _ _) rfl ?_)
            refine unpause ?_
            refine wpList_store_blk rfl 39 (.tmp 6) (.tmp 65) rfl (w.heap.size + 1) rfl (gv 0 0) (gv 0 0) rfl (K3.out.get 0 rfl) rfl info100 (gv_one _ _) ?_
            go_wp2_with fail
            refine bodyPost_ret_by (results_cell2 rfl _ (w.heap.size + 1) rfl (gv 0 0) _ ((K3.out.get 0 rfl).setRow _) Try.underlying39 rfl info100) rfl ⟨?_, below_setRow B3.out (by omega) _⟩
            rw [HR.out]
            rfl
          · have HR := hide (hge2 hc)
            have hd : decide (hi < lo) = false := decide_eq_false hc
            clear hlt2 hge2 hc d0 d1 d2 d3
            go_wp2_with (refine pause (.store 39 _ _) rfl ?_)
            refine unpause ?_
            refine wpList_store_blk rfl 39 (.tmp 6) (.tmp 68) rfl (w.heap.size + 1) rfl (gv 0 0) (gv lo hi) rfl (K3.out.get 0 rfl) rfl info100 (gv_one _ _) ?_
            go_wp2_with fail
            refine bodyPost_ret_by (results_cell2 rfl _ (w.heap.size + 1) rfl (gv lo hi) _ ((K3.out.get 0 rfl).setRow _) Try.underlying39 rfl info100) rfl ⟨?_, below_setRow B3.out (by omega) _⟩
            rw [HR.out]
            rfl
end Go.Proofs.Ytgidaifoiljgoaa
/- Slices of samples: Delete of the first, Clone. -/
namespace Go.Proofs.Ytgidaifoiljgoaa
open Go.RowKit
set_option linter.unusedVariables false
set_option linter.unusedSimpArgs false
def scells (l : List Smp) : List Value := (l.map fun s => (smv s).toList).flatten
theorem scells_len : ∀ l : List Smp, (scells l).length = l.length * 4
  | [] => rfl
  | s :: r => by
    have := scells_len r
    unfold scells at this ⊢
    rw [List.map_cons, List.flatten_cons, List.length_append, this, List.length_cons]
    simp [smv]; omega
theorem scells_cons (s : Smp) (r : List Smp) : scells (s :: r) = (smv s).toList ++ scells r := by unfold scells; rw [List.map_cons, List.flatten_cons]
theorem scells_app (a b : List Smp) : scells (a ++ b) = scells a ++ scells b := by unfold scells; rw [List.map_append, List.flatten_append]
theorem scells_one (l : List Smp) : ∀ u ∈ scells l, u.oneCell' = true := by
  intro u hu
  unfold scells at hu
  rw [List.mem_flatten] at hu
  obtain ⟨c, hc, hu⟩ := hu
  obtain ⟨s, _, rfl⟩ := List.mem_map.1 hc
  simp only [smv, List.mem_cons, List.not_mem_nil, or_false] at hu
  rcases hu with rfl | rfl | rfl | rfl <;> rfl
def z4 : List Value := [.int .i64 0, .int .i64 0, .int .i64 0, .int .i64 0]
theorem run_clear1 (b o c : Nat) (w : World) (ty : TypeId) (hc : ∀ j, j < 4 → (w.cell? ⟨b, o + j, none⟩).isSome = true) (hf : ∀ j, j < 4 → w.frozen? ⟨b, o + j, none⟩ = false) :
    (Builtin.clear_ #[22] ty #[.slice (some ⟨b, o, none⟩) 1 c]).run Try.prog w = .ok (.tuple #[]) (w.setCells b o z4) := by
  have hst := run_storeCells_cells (P := Try.prog) b o z4 0 w (by simpa [z4] using hc) (by simpa [z4] using hf) (by intro u hu; simp [z4] at hu; subst hu; rfl)
  have hz : (zeroValue 33).run Try.prog w = .ok (.agg z4.toArray) w := by kernel_rfl
  have hu := run_underlying Try.underlying22 w
  rw [Nat.add_zero] at hst
  have hzc : (Builtin.zeroCells (Value.cells (.agg z4.toArray)) 1).toList = z4 := by kernel_rfl
  simp [Builtin.clear_, Sem.run_bind, hu, hz, Result.andThen, hzc, hst]
set_option maxRecDepth 100000 in
theorem infoSz : (Try.prog.info? 33).map (fun i => (i.zero, i.size, i.bytes)) = some (some (.agg z4.toArray), 4, 32) := by kernel_rfl
theorem drop_scells (l : List Smp) : (scells l).drop 4 = scells (l.drop 1) := by
  cases l with
  | nil => rfl
  | cons s r => rw [scells_cons]; rfl
/-- The world behind append(s[:0], s[1:]...), in place. -/
theorem run_shift (b off n cap : Nat) (xs : List Smp) (w : World) (ty : TypeId) (hn : 1 ≤ n) (hnc : n ≤ cap) (hl : xs.length = n)
    (hroom : ∀ j, j < cap * 4 → (w.cell? ⟨b, off + j, none⟩).isSome = true ∧ w.frozen? ⟨b, off + j, none⟩ = false) (hx : ∀ j (h : j < (scells xs).length), w.cell? ⟨b, off + j, none⟩ = some (scells xs)[j]) :
    (Builtin.append_ #[22, 22] ty #[.slice (some ⟨b, off, none⟩) 0 cap, .slice (some ⟨b, off + 4, none⟩) (n - 1) (cap - 1)]).run Try.prog w = .ok (.slice (some ⟨b, off, none⟩) (n - 1) cap) (w.setCells b off (scells (xs.drop 1))) := by
  obtain ⟨i0, hi, hz0, hz1, hz2⟩ := info_parts infoSz
  have hd : (scells (xs.drop 1)).length = (n - 1) * 4 := by rw [scells_len, List.length_drop, hl]
  have h := run_append_room_cells (P := Try.prog) w 22 ty 33 i0 Try.underlying22 hi b off 0 cap ⟨b, off + 4, none⟩ (n - 1) (cap - 1) (scells (xs.drop 1)) (by rw [hd, hz1])
    (fun j u hu => by
      rw [Addr.add_lit]
      have e2 : (scells xs)[4 + j]? = some u := by rw [← List.getElem?_drop, drop_scells]; exact hu
      obtain ⟨h3, h4⟩ := List.getElem?_eq_some_iff.1 e2
      have := hx (4 + j) h3
      rw [h4] at this
      rw [show off + 4 + j = off + (4 + j) by omega]
      exact this)
    (scells_one _) (by omega) (fun j hj => by rw [Nat.zero_mul, Nat.add_zero]; exact (hroom j (by omega)).1) (fun j hj => by rw [Nat.zero_mul, Nat.add_zero]; exact (hroom j (by omega)).2)
  rw [Nat.zero_mul, Nat.add_zero, Nat.zero_add] at h
  exact h
theorem slice3 (A : Option Addr) (n c : Nat) (w : World) (h : 1 ≤ n) (hn : n ≤ c) (hc : c ≤ 140737488351232) : (Instr.sliceAt 22 (.slice A n c) (some (.int .i64 0)) (some (.int .i64 1)) (some (.int .i64 (n : Int)))).run Try.prog w = .ok (.slice A 1 n) w := by
  have h1 : (0 : Int) ≤ (n : Int) := by omega
  have h2 : (1 : Int) ≤ (n : Int) := by omega
  have h3 : (n : Int) ≤ (c : Int) := by omega
  have h4 : ¬ n = 0 := by omega
  go_simp
theorem sliceTo0 (A : Option Addr) (n c : Nat) (w : World) : (Instr.sliceAt 22 (.slice A n c) none (some (.int .i64 0)) none).run Try.prog w = .ok (.slice A 0 c) w := by
  have h3 : (0 : Int) ≤ (c : Int) := by omega
  go_simp
theorem sliceFrom1 (b off n c : Nat) (w : World) (h : 2 ≤ n) (hn : n ≤ c) : (Instr.sliceAt 22 (.slice (some ⟨b, off, none⟩) n c) (some (.int .i64 1)) none none).run Try.prog w = .ok (.slice (some ⟨b, off + 4, none⟩) (n - 1) (c - 1)) w := by
  have h1 : (1 : Int) ≤ (n : Int) := by omega
  have h2 : (n : Int) ≤ (c : Int) := by omega
  have h3 : ¬ c = 1 := by omega
  go_simp
theorem sliceTail (b off n c : Nat) (w : World) (h : 2 ≤ n) (hn : n ≤ c) : (Instr.sliceAt 22 (.slice (some ⟨b, off, none⟩) (n - 1) c) (some (.int .i64 ((n - 1 : Nat) : Int))) (some (.int .i64 (n : Int))) none).run Try.prog w = .ok (.slice (some ⟨b, off + (n - 1) * 4, none⟩) 1 (c - (n - 1))) w := by
  have h1 : (0 : Int) ≤ ((n - 1 : Nat) : Int) := by omega
  have h2 : ((n - 1 : Nat) : Int) ≤ (n : Int) := by omega
  have h4 : (n : Int) ≤ (c : Int) := by omega
  have h3 : ¬ c = n - 1 := by omega
  have h5 : n - (n - 1) = 1 := by omega
  go_simp
theorem ow_shift (b off n cap lo : Nat) (xs : List Smp) (w : World) (hn : 1 ≤ n) (h : Ow w lo 33 4 (.slice (some ⟨b, off, none⟩) n cap) n (scells xs)) :
    Ow ((w.setCells b off (scells (xs.drop 1))).setCells b (off + (n - 1) * 4) z4) lo 33 4 (.slice (some ⟨b, off, none⟩) (n - 1) cap) (n - 1) (scells (xs.drop 1)) ∧ w.grownBy ((w.setCells b off (scells (xs.drop 1))).setCells b (off + (n - 1) * 4) z4) (some b) ∧ (∀ j, j < 4 → ((w.setCells b off (scells (xs.drop 1))).cell? ⟨b, off + (n - 1) * 4 + j, none⟩).isSome = true ∧ (w.setCells b off (scells (xs.drop 1))).frozen? ⟨b, off + (n - 1) * 4 + j, none⟩ = false) := by
  have hl : xs.length = n := by have := h.1; rw [scells_len] at this; omega
  have hd : (scells (xs.drop 1)).length = (n - 1) * 4 := by rw [scells_len, List.length_drop, hl]
  obtain ⟨g', off', cap', he, hlo, hlt, hnc, hcm, hroom, hx⟩ := h.open_ (by omega)
  simp only [Value.slice.injEq, Option.some.injEq, Addr.mk.injEq, and_true, true_and] at he
  obtain ⟨⟨rfl, rfl⟩, rfl⟩ := he
  have hz : z4.length = 4 := rfl
  have hsome : ∀ j, j < cap * 4 → ((w.setCells b off (scells (xs.drop 1))).cell? ⟨b, off + j, none⟩).isSome = true := by
    intro j hj
    by_cases hin : j < (scells (xs.drop 1)).length
    · have h := World.cell?_setCells_in b (scells (xs.drop 1)) off w (fun q hq => (hroom q (by omega)).1) j hin
      rw [h]; rfl
    · rw [World.cell?_setCells_out b (scells (xs.drop 1)) off w _ (fun _ _ => by simp only; omega)]
      exact (hroom j hj).1
  refine ⟨⟨hd, .inr (.inr ⟨b, off, cap, rfl, hlo, by rw [setCells_size, setCells_size]; exact hlt, by omega, hcm, fun j hj => ?_, fun j hj => ?_⟩)⟩, grown_trans (setCells_grown b off _ w) (setCells_grown b _ _ _), fun j hj => ⟨by rw [Nat.add_assoc]; exact hsome _ (by omega), by rw [World.frozen?_setCells, Nat.add_assoc]; exact (hroom _ (by omega)).2⟩⟩
  · rw [World.frozen?_setCells, World.frozen?_setCells]
    refine ⟨?_, (hroom j hj).2⟩
    by_cases hin : (n - 1) * 4 ≤ j ∧ j < (n - 1) * 4 + 4
    · have h := World.cell?_setCells_in b z4 (off + (n - 1) * 4) (w.setCells b off (scells (xs.drop 1))) (fun q hq => by rw [Nat.add_assoc]; exact hsome _ (by omega)) (j - (n - 1) * 4) (by omega)
      rw [show off + (n - 1) * 4 + (j - (n - 1) * 4) = off + j by omega] at h
      rw [h]; rfl
    · rw [World.cell?_setCells_out b z4 (off + (n - 1) * 4) _ _ (fun _ _ => by simp only; omega)]
      exact hsome j hj
  · rw [World.cell?_setCells_out b z4 (off + (n - 1) * 4) _ _ (fun _ _ => by simp only; omega)]
    have h := World.cell?_setCells_in b (scells (xs.drop 1)) off w (fun q hq => (hroom q (by omega)).1) j hj
    rw [h]
theorem grown_drew {w w' : World} {row : Option Nat} (h : w.drew.grownBy w' row) : w.grownBy w' row := ⟨h.os, h.tape, h.output, h.size, h.block⟩
set_option maxHeartbeats 1000000 in
set_option maxRecDepth 100000 in
theorem delete1_any (b off n cap lo : Nat) (xs : List Smp) (w : World) (hn : 2 ≤ n) (hc : cap ≤ 9223372036854775807) (h : Ow w lo 33 4 (.slice (some ⟨b, off, none⟩) n cap) n (scells xs)) :
    Calls Try.prog 44 #[.slice (some ⟨b, off, none⟩) n cap, .int .i64 0, .int .i64 1] w fun e w' => e = .returned (.slice (some ⟨b, off, none⟩) (n - 1) cap) ∧ Ow w' lo 33 4 (.slice (some ⟨b, off, none⟩) (n - 1) cap) (n - 1) (scells (xs.drop 1)) ∧ w.grownBy w' (some b) := by
  have hl : xs.length = n := by have := h.1; rw [scells_len] at this; omega
  obtain ⟨g', off', cap', he, hlo, hlt, hnc, hcm, hroom, hx⟩ := h.open_ (by omega)
  simp only [Value.slice.injEq, Option.some.injEq, Addr.mk.injEq, and_true, true_and] at he
  obtain ⟨⟨rfl, rfl⟩, rfl⟩ := he
  have HS := hide (run_shift b off n cap xs w.drew 22 (by omega) hnc hl hroom hx)
  have HO := hide (ow_shift b off n cap lo xs w.drew (by omega) h.drew)
  have h0 : (0 : Int) ≤ (n : Int) := by omega
  have h1 : (1 : Int) ≤ (n : Int) := by omega
  have h2 : (n : Int) ≤ (cap : Int) := by omega
  clear h hroom hx hl
  go_enter Try.func44, Try.ntmps44
  go_wp2_with fail
  refine region_flow (by kernel_rfl) (by kernel_rfl) (Γ := Unit) (fun _ => [.slice (some ⟨b, off, none⟩) n cap, .int .i64 0, .slice (some ⟨b, off, none⟩) 0 cap, .slice (some ⟨b, off, none⟩) n cap, .int .i64 1, .slice (some ⟨b, off + 4, none⟩) (n - 1) (cap - 1), .slice (some ⟨b, off, none⟩) (n - 1) cap, .slice (some ⟨b, off, none⟩) (n - 1) cap])
    (fun l γ W => W = if l 6 = true then w.drew.setCells b off (scells (xs.drop 1)) else w.drew) (fun _ => rfl) () rfl ?step ?fin
  case step =>
    refine ⟨?_, ?_, ?_, ?_, ?_, ?_, ?_, ?_, trivial⟩
    · intro l γ W hG hl hw hcl; exact stepV_value rfl _ rfl (.inr rfl) hG
    · intro l γ W hG hl hw hcl; exact stepV_value rfl _ rfl (.inr rfl) hG
    · intro l γ W hG hl hw hcl; exact stepV_value rfl _ (exec_slice _ _ _ _ _ rfl _ n cap rfl (sliceTo0 _ n cap W)) (.inr rfl) hG
    · intro l γ W hG hl hw hcl; exact stepV_value rfl _ rfl (.inr rfl) hG
    · intro l γ W hG hl hw hcl; exact stepV_value rfl _ rfl (.inr rfl) hG
    · intro l γ W hG hl hw hcl; exact stepV_value rfl _ (exec_slice _ _ _ _ _ rfl _ n cap rfl (sliceFrom1 b off n cap W hn hnc)) (.inr rfl) hG
    · intro l γ W hG hl hw hcl
      rw [show l 6 = false from hl, if_neg (by simp)] at hG
      subst hG
      exact stepV_run rfl _ _ γ (exec_append _ _ _ rfl _ _ rfl rfl HS.out) (SameV.refl _ _ _) (.inr rfl) rfl
    · intro l γ W hG hl hw hcl; exact stepV_value rfl _ rfl (.inr rfl) hG
  case fin =>
    intro l γ W hall hG
    rw [hall 6 (by simp), if_pos rfl] at hG
    subst hG
    have ho := HO.out
    have hcz := fun ty => run_clear1 b (off + (n - 1) * 4) (cap - (n - 1)) (w.drew.setCells b off (scells (xs.drop 1))) ty (fun j hj => (ho.2.2 j hj).1) (fun j hj => (ho.2.2 j hj).2)
    have hst := sliceTail b off n cap (w.drew.setCells b off (scells (xs.drop 1))) hn hnc
    generalize w.drew.setCells b off (scells (xs.drop 1)) = w5 at *
    have HO2 := hide ho
    have HCZ := hide hcz
    clear ho hcz HO HS
    simp only [putAll, Act.put, List.setIfInBounds_toArray, List.set_cons_succ, List.set_cons_zero]
    have h6 : (0 : Int) ≤ ((n - 1 : Nat) : Int) := by omega
    have h7 : ((n - 1 : Nat) : Int) ≤ (n : Int) := by omega
    go_wp2_with (first | refine pause (.slice _ _ _ _ _) rfl ?_ | refine pause (.call { callee := .builtin .clear, args := _, argTypes := _ }) rfl ?_)
    refine unpause ?_
    refine wpList_exec rfl _ (exec_slice _ _ _ _ _ rfl _ _ _ rfl hst) ?_
    go_wp2_with (refine pause (.call { callee := .builtin .clear, args := _, argTypes := _ }) rfl ?_)
    refine unpause ?_
    refine wpList_exec rfl _ (exec_clear _ _ rfl _ rfl (HCZ.out _)) ?_
    go_wp2_with fail
    go_ret
    exact ⟨rfl, HO2.out.1, grown_drew HO2.out.2.1⟩
set_option maxHeartbeats 1000000 in
set_option maxRecDepth 100000 in
theorem cloneS_any (A : Option Addr) (n c : Nat) (xs : List Smp) (w : World) (hr : Rd w w.heap.size 4 A n (scells xs)) (hn : n ≤ 1000) :
    Calls Try.prog 61 #[.slice A n c] w fun e w' => ∃ v, e = .returned v ∧ Ow w' w.heap.size 33 4 v n (scells xs) ∧ Below w.heap.size w w' := by
  obtain ⟨i0, hi0, hz0, hz1, hz2⟩ := info_parts infoSz
  cases A with
  | none =>
    have h0 : n = 0 := by
      rcases Nat.eq_zero_or_pos n with h | h
      · exact h
      · obtain ⟨b, off, h, _⟩ := hr.at_ h
        cases h
    subst h0
    have hx : scells xs = [] := hr.nil'
    have hq := Lib.run_eql_slice_nil (P := Try.prog) (w := w) 22
    go_enter Try.func61, Try.ntmps61
    go_wp2_with fail
    go_ret
    exact ⟨_, rfl, by rw [hx]; exact Ow.nil _ _ _ _, Below.refl _ _⟩
  | some a =>
    have hq := Lib.run_eql_slice_nil (P := Try.prog) (w := w) 22
    go_enter Try.func61, Try.ntmps61
    go_wp2_with (at_builtin; refine wpList_append_ow _ rfl (.tmp 5) (.tmp 6) _ rfl w.heap.size 33 i0 _ 4 32 Try.underlying22 hi0 hz0 hz1 hz2 rfl (by omega) (.slice (some ⟨w.heap.size, 0, none⟩) 0 0) 0 [] rfl (Ow.lit w #[] 0 (Nat.le_refl _) (by simp [maxLen]) rfl) w.heap.size (some a) n c (scells xs) rfl (hr.alloc (Nat.le_refl _) _) (scells_one xs) (by simp only [maxLen]; omega) (by omega) (by simp) ?_; intro v1 w1 hown1 hg1 hat1 hnn1)
    go_ret
    refine ⟨_, rfl, by simpa using hown1, ?_⟩
    exact (((Below.refl _ _).alloc (Nat.le_refl _) _).grown hg1 (by simp) (by simp [Value.ownBlock]))
end Go.Proofs.Ytgidaifoiljgoaa
/- gap.Meet; sweep.Agree. -/
namespace Go.Proofs.Ytgidaifoiljgoaa
open Go.RowKit
set_option linter.unusedVariables false
set_option linter.unusedSimpArgs false
theorem rd_to {w1 W : World} {s n : Nat} {A : Option Addr} {xs : List Value} (hr : Rd w1 w1.heap.size s A n xs) (h : Below w1.heap.size w1 W) : Rd W W.heap.size s A n xs := (hr.below h).more h.size
def gcell (g : Int × Int) : List Value := [.int .i64 g.1, .int .i64 g.2]
def gcells (gs : List (Int × Int)) : List Value := (gs.map gcell).flatten
theorem gcells_len : ∀ gs : List (Int × Int), (gcells gs).length = gs.length * 2
  | [] => rfl
  | g :: r => by
    have := gcells_len r
    unfold gcells at this ⊢
    rw [List.map_cons, List.flatten_cons, List.length_append, this, List.length_cons]
    simp [gcell]; omega
theorem gcells_get : ∀ (gs : List (Int × Int)) (k j : Nat) (g : Int × Int), gs[k]? = some g → j < 2 → (gcells gs)[k * 2 + j]? = (gcell g)[j]?
  | [], k, j, g, h, _ => by simp at h
  | x :: r, 0, j, g, h, hj => by
    simp at h
    subst h
    unfold gcells
    rw [List.map_cons, List.flatten_cons, Nat.zero_mul, Nat.zero_add, List.getElem?_append_left (by simpa [gcell] using hj)]
  | x :: r, k + 1, j, g, h, hj => by
    have ih := gcells_get r k j g (by simpa using h) hj
    unfold gcells at ih ⊢
    rw [List.map_cons, List.flatten_cons, List.getElem?_append_right (by simp [gcell]; omega)]
    rw [show (k + 1) * 2 + j - (gcell x).length = k * 2 + j by simp [gcell]; omega]
    exact ih
/-- One gap of a slice. -/
theorem Rd.gap {w : World} {B n : Nat} {A : Option Addr} {gs : List (Int × Int)} (h : Rd w B 2 A n (gcells gs)) {k : Nat} (hk : k < n) :
    ∃ b off g, A = some ⟨b, off, none⟩ ∧ b < B ∧ gs[k]? = some g ∧ w.cell? ⟨b, off + k * 2, none⟩ = some (.int .i64 g.1) ∧ w.cell? ⟨b, off + k * 2 + 1, none⟩ = some (.int .i64 g.2) := by
  obtain ⟨b, off, e, hb, hc⟩ := h.at_ hk
  have hl := h.1
  rw [gcells_len] at hl
  have hlt : k < gs.length := by omega
  refine ⟨b, off, gs[k], e, hb, List.getElem?_eq_getElem hlt, ?_, ?_⟩
  · have h0 := gcells_get gs k 0 gs[k] (List.getElem?_eq_getElem hlt) (by omega)
    obtain ⟨h1, h2⟩ := List.getElem?_eq_some_iff.1 (h0.trans (show (gcell gs[k])[0]? = some _ from rfl))
    have := hc (k * 2 + 0) h1
    rw [h2] at this
    exact this
  · have h0 := gcells_get gs k 1 gs[k] (List.getElem?_eq_getElem hlt) (by omega)
    obtain ⟨h1, h2⟩ := List.getElem?_eq_some_iff.1 (h0.trans (show (gcell gs[k])[1]? = some _ from rfl))
    have := hc (k * 2 + 1) h1
    rw [h2] at this
    exact this
theorem Rd.lenG {w : World} {B n : Nat} {A : Option Addr} {gs : List (Int × Int)} (h : Rd w B 2 A n (gcells gs)) : gs.length = n := by
  have := h.1
  rw [gcells_len] at this
  omega
def okG (g : Int × Int) : Bool := decide (g.1 ≤ g.2)
def meetL (s : Int × Int) (gs : List (Int × Int)) : Int × Int := gs.foldl (fun a g => (max a.1 g.1, min a.2 g.2)) s
def foldR (s : Int × Int) (gs : List (Int × Int)) : (Int × Int) × Nat := if gs.all okG = false then ((0, 0), 10) else if okG (meetL s gs) = true then (meetL s gs, 0) else ((0, 0), 13)
theorem gv_ret {a b c d : Int} (h : a = c) (h' : b = d) : Ending.returned (.agg #[.int .i64 a, .int .i64 b]) = .returned (.agg #[.int .i64 c, .int .i64 d]) := by rw [h, h']
theorem meetF_any (a b c d : Int) (w : World) : Calls Try.prog 63 #[.agg (gv a b), .agg (gv c d)] w fun e w' => e = .returned (.agg (gv (max a c) (min b d))) ∧ Below w.heap.size w w' := by
  unfold gv
  have hsz : ((w.alloc (.cells #[.int .i64 a, .int .i64 b] 39)).alloc (.cells #[.int .i64 c, .int .i64 d] 39)).heap.size = w.heap.size + 1 + 1 := by simp
  go_enter Try.func63, Try.ntmps63
  go_wp2_with fail
  all_goals
    refine bodyPost_ret_by (results_cell rfl _ (w.heap.size + 1 + 1) rfl (gv _ _) _ (by rw [← hsz]; exact Blk.new _ _ _) Try.underlying39 rfl info100) rfl ⟨?_, (((Below.refl _ _).alloc (Nat.le_refl _) _).alloc (by simp) _).alloc (by simp; omega) _⟩
    exact gv_ret (by omega) (by omega)
set_option maxHeartbeats 1000000 in
set_option maxRecDepth 100000 in
theorem fold_any (s : Int × Int) (A : Option Addr) (n c : Nat) (gs : List (Int × Int)) (w : World) (hr : Rd w w.heap.size 2 A n (gcells gs)) (hn : n ≤ 140737488351232) :
    Calls Try.prog 62 #[.agg (gv s.1 s.2), .slice A n c, .func (.func 63) #[] #[]] w fun e w' => e = .returned (.tuple #[.agg (gv (foldR s gs).1.1 (foldR s gs).1.2), .int .i64 (foldR s gs).2]) ∧ Below w.heap.size w w' := by
  have HN := hide hr.lenG
  obtain ⟨R, hR⟩ : ∃ R, R = foldR s gs := ⟨_, rfl⟩
  rw [← hR]
  have HR := hide hR
  clear hR
  obtain ⟨s1, s2⟩ := s
  have hr0 := hide hr
  have K0 := hide (((Blks.nil w).new 39 (gv s1 s2)).new 39 (gv 0 0))
  rw [World.size_alloc] at K0
  have B0 := hide (show Below w.heap.size w ((w.alloc (.cells (gv s1 s2) 39)).alloc (.cells (gv 0 0) 39)) from ((Below.refl _ _).alloc (Nat.le_refl _) _).alloc (by simp) _)
  clear hr
  go_enter Try.func62, Try.ntmps62
  go_wp2_with fail
  go_loopw [7, 12] (fun e i wr => ∃ (k : Nat) (m1 m2 : Int), k ≤ n ∧ e = .int .i64 0 ∧ i = .int .i64 k ∧ Hid (Blks wr [(w.heap.size + 1, 39, gv 0 0), (w.heap.size, 39, gv m1 m2)]) ∧ Hid (Below w.heap.size w wr) ∧ Hid ((gs.take k).all okG = true ∧ meetL (s1, s2) (gs.take k) = (m1, m2))) (fun _ i _ => n - (intOf i).toNat)
  case atStart => exact ⟨0, s1, s2, Nat.zero_le _, rfl, rfl, K0, B0, hide ⟨rfl, rfl⟩⟩
  case round =>
    clear K0 B0
    obtain ⟨k, m1, m2, hk, rfl, rfl, KR, BR, HM⟩ := hrel
    by_cases hk1 : k < n
    · obtain ⟨b, off, ⟨g1, g2⟩, rfl, hb, hg, hc0, hc1⟩ := hr0.out.gap hk1
      have c0 := (BR.out.cell (p := ⟨b, off + k * 2, none⟩) hb).trans hc0
      have c1 := (BR.out.cell (p := ⟨b, off + k * 2 + 1, none⟩) hb).trans hc1
      have HG := hide hg
      clear hg hc0 hc1
      by_cases hok : g1 ≤ g2
      · have hok2 : decide (g1 ≤ g2) = true := decide_eq_true hok
        have BRs : w.heap.size ≤ wr.heap.size := BR.out.size
        go_wp2_with fail
        refine (gapRight_any g1 g2 _).mono ?_
        rintro e w1 ⟨rfl, hb1⟩
        rw [hok2]
        have K1 := hide ((KR.out.new 39 (gv g1 g2)).next hb1)
        have B1 := hide ((BR.out.alloc BRs (.cells (gv g1 g2) 39)).trans (hb1.mono (by simp; omega)))
        have k9 := K1.out.get 0 rfl
        have k3 := K1.out.get 2 rfl
        have d0 := k9.cell 0
        have d1 := k9.cell 1
        have e0 := k3.cell 0
        have e1 := k3.cell 1
        have f0 := k3.frozen 0
        have f1 := k3.frozen 1
        simp only [gv, List.getElem?_toArray, List.getElem?_cons_zero, List.getElem?_cons_succ] at d0 d1 e0 e1
        clear hb1 k9 k3 c0 c1
        go_wp2_with fail
        refine (meetF_any m1 m2 g1 g2 _).mono ?_
        rintro e w2 ⟨rfl, hb2⟩
        have K2 := hide (K1.out.next hb2)
        have B2 := hide (B1.out.trans (hb2.mono B1.out.size))
        clear hb2 d0 d1 e0 e1 f0 f1
        go_wp2_with (refine pause (.store 39 _ _) rfl ?_)
        refine unpause ?_
        have K3 := hide (show Blks (w2.setRow w.heap.size (gv (max m1 g1) (min m2 g2))) [(w.heap.size + 1, 39, gv 0 0), (w.heap.size, 39, gv (max m1 g1) (min m2 g2))] from (K2.out.row 2 rfl _).tail)
        have B3 := hide (below_setRow B2.out (g := w.heap.size) (Nat.le_refl _) (gv (max m1 g1) (min m2 g2)))
        refine wpList_store_blk rfl 39 (.tmp 3) (.tmp 23) rfl w.heap.size rfl (gv m1 m2) (gv (max m1 g1) (min m2 g2)) rfl (K2.out.get 2 rfl) rfl info100 (gv_one _ _) ?_
        have HM2 := hide (show (gs.take (k + 1)).all okG = true ∧ meetL (s1, s2) (gs.take (k + 1)) = (max m1 g1, min m2 g2) by
          have h := HM.out
          have e : gs.take (k + 1) = gs.take k ++ [(g1, g2)] := by rw [List.take_add_one, HG.out]; rfl
          rw [e, List.all_append, h.1]
          refine ⟨by simp [okG, hok], ?_⟩
          unfold meetL at h ⊢
          rw [List.foldl_append, h.2]
          rfl)
        generalize w2.setRow w.heap.size (gv (max m1 g1) (min m2 g2)) = w3 at *
        clear K1 B1 K2 B2 KR BR HM
        go_wp2_with fail
        go_roundw
        case rel => exact ⟨k + 1, _, _, by omega, rfl, by go_num, K3, B3, HM2⟩
        case measure => simp [intOf]; omega
      · have hok2 : decide (g1 ≤ g2) = false := decide_eq_false hok
        have BRs : w.heap.size ≤ wr.heap.size := BR.out.size
        have HF := hide (show R = ((0, 0), 10) by
          rw [HR.out]
          unfold foldR
          rw [if_pos]
          rw [List.all_eq_false]
          exact ⟨(g1, g2), List.mem_of_getElem? HG.out, by simp [okG, hok]⟩)
        go_wp2_with fail
        refine (gapRight_any g1 g2 _).mono ?_
        rintro e w1 ⟨rfl, hb1⟩
        rw [hok2]
        have K1 := hide ((KR.out.new 39 (gv g1 g2)).next hb1)
        have B1 := hide ((BR.out.alloc BRs (.cells (gv g1 g2) 39)).trans (hb1.mono (by simp; omega)))
        clear hb1 c0 c1
        go_wp2_with (refine pause (.store 39 _ _) rfl ?_)
        refine unpause ?_
        refine wpList_store_blk rfl 39 (.tmp 6) (.tmp 19) rfl (w.heap.size + 1) rfl (gv 0 0) (gv 0 0) rfl (K1.out.get 1 rfl) rfl info100 (gv_one _ _) ?_
        go_wp2_with fail
        refine bodyPost_ret_by (results_cell2 rfl _ (w.heap.size + 1) rfl (gv 0 0) _ ((K1.out.get 1 rfl).setRow _) Try.underlying39 rfl info100) rfl ⟨?_, below_setRow B1.out (by omega) _⟩
        rw [HF.out]
        rfl
    · have hkn : k = n := by omega
      subst hkn
      have hm := HM.out
      rw [show gs.take k = gs from List.take_of_length_le (by have := HN.out; omega)] at hm
      have k3 := KR.out.get 1 rfl
      have e0 := k3.cell 0
      have e1 := k3.cell 1
      simp only [gv, List.getElem?_toArray, List.getElem?_cons_zero, List.getElem?_cons_succ] at e0 e1
      clear k3
      by_cases hok : m1 ≤ m2
      · have hok2 : decide (m1 ≤ m2) = true := decide_eq_true hok
        have HF := hide (show R = ((m1, m2), 0) by
          rw [HR.out]
          unfold foldR
          rw [if_neg (by rw [hm.1]; simp), hm.2, if_pos (by simp [okG, hok])])
        clear hm
        go_wp2_with fail
        refine (gapRight_any m1 m2 _).mono ?_
        rintro e w1 ⟨rfl, hb1⟩
        rw [hok2]
        have K1 := hide (KR.out.next hb1)
        have B1 := hide (BR.out.trans (hb1.mono BR.out.size))
        have k3 := K1.out.get 1 rfl
        have e0 := k3.cell 0
        have e1 := k3.cell 1
        simp only [gv, List.getElem?_toArray, List.getElem?_cons_zero, List.getElem?_cons_succ] at e0 e1
        clear hb1 k3
        go_wp2_with (refine pause (.store 39 _ _) rfl ?_)
        refine unpause ?_
        refine wpList_store_blk rfl 39 (.tmp 6) (.tmp 29) rfl (w.heap.size + 1) rfl (gv 0 0) (gv m1 m2) rfl (K1.out.get 0 rfl) rfl info100 (gv_one _ _) ?_
        go_wp2_with fail
        refine bodyPost_ret_by (results_cell2 rfl _ (w.heap.size + 1) rfl (gv m1 m2) _ ((K1.out.get 0 rfl).setRow _) Try.underlying39 rfl info100) rfl ⟨?_, below_setRow B1.out (by omega) _⟩
        rw [HF.out]
        rfl
      · have hok2 : decide (m1 ≤ m2) = false := decide_eq_false hok
        have HF := hide (show R = ((0, 0), 13) by
          rw [HR.out]
          unfold foldR
          rw [if_neg (by rw [hm.1]; simp), hm.2, if_neg (by simp [okG, hok])])
        clear hm
        go_wp2_with fail
        refine (gapRight_any m1 m2 _).mono ?_
        rintro e w1 ⟨rfl, hb1⟩
        rw [hok2]
        have K1 := hide (KR.out.next hb1)
        have B1 := hide (BR.out.trans (hb1.mono BR.out.size))
        clear hb1 e0 e1
        go_wp2_with (refine pause (.store 39 _ _) rfl ?_)
        refine unpause ?_
        refine wpList_store_blk rfl 39 (.tmp 6) (.tmp 28) rfl (w.heap.size + 1) rfl (gv 0 0) (gv 0 0) rfl (K1.out.get 0 rfl) rfl info100 (gv_one _ _) ?_
        go_wp2_with fail
        refine bodyPost_ret_by (results_cell2 rfl _ (w.heap.size + 1) rfl (gv 0 0) _ ((K1.out.get 0 rfl).setRow _) Try.underlying39 rfl info100) rfl ⟨?_, below_setRow B1.out (by omega) _⟩
        rw [HF.out]
        rfl
def allG : Int × Int := (-9223372036854775808, 9223372036854775807)
def meetR (gs : List (Int × Int)) : (Int × Int) × Nat := foldR allG gs
set_option maxHeartbeats 1000000 in
set_option maxRecDepth 100000 in
theorem meet_any (A : Option Addr) (n c : Nat) (gs : List (Int × Int)) (w : World) (hr : Rd w w.heap.size 2 A n (gcells gs)) (hn : n ≤ 140737488351232) :
    Calls Try.prog 29 #[.slice A n c] w fun e w' => e = .returned (.tuple #[.agg (gv (meetR gs).1.1 (meetR gs).1.2), .int .i64 (meetR gs).2]) ∧ Below w.heap.size w w' := by
  have K0 := hide (((Blks.nil w).new 39 (gv 0 0)).new 39 (gv (-9223372036854775808) 9223372036854775807))
  rw [World.size_alloc] at K0
  have B0 := hide (show Below w.heap.size w ((w.alloc (.cells (gv 0 0) 39)).alloc (.cells (gv (-9223372036854775808) 9223372036854775807) 39)) from ((Below.refl _ _).alloc (Nat.le_refl _) _).alloc (by simp) _)
  have HF := hide (fun w => fold_any allG A n c gs w)
  have HMR : Hid (meetR gs = foldR allG gs) := hide rfl
  rw [← HMR.out] at HF
  have R0 := hide (rd_to hr B0.out)
  generalize meetR gs = R at *
  obtain ⟨⟨m1, m2⟩, er⟩ := R
  clear hr HMR
  go_enter Try.func29, Try.ntmps29
  go_wp2_with fail
  refine (HF.out _ R0.out hn).mono ?_
  rintro e w1 ⟨rfl, hb1⟩
  have K1 := hide (K0.out.next hb1)
  have B1 := hide (B0.out.trans (hb1.mono B0.out.size))
  clear hb1 K0 B0 HF R0
  go_wp2_with (refine pause (.store 39 _ _) rfl ?_)
  refine unpause ?_
  refine wpList_store_blk rfl 39 (.tmp 2) (.tmp 9) rfl w.heap.size rfl (gv 0 0) (gv m1 m2) rfl (K1.out.get 1 rfl) rfl info100 (gv_one _ _) ?_
  go_wp2_with fail
  refine bodyPost_ret_by (results_cell2 rfl _ w.heap.size rfl (gv m1 m2) _ ((K1.out.get 1 rfl).setRow _) Try.underlying39 rfl info100) rfl ⟨rfl, below_setRow B1.out (Nat.le_refl _) _⟩
def agreeB (gs : List (Int × Int)) : Bool := decide (0 < gs.length) && decide ((meetR gs).2 = 0)
set_option maxHeartbeats 1000000 in
set_option maxRecDepth 100000 in
theorem agree_any (A : Option Addr) (n c : Nat) (gs : List (Int × Int)) (w : World) (hr : Rd w w.heap.size 2 A n (gcells gs)) (hn : n ≤ 140737488351232) :
    Calls Try.prog 45 #[.slice A n c] w fun e w' => e = .returned (.bool (agreeB gs)) ∧ Below w.heap.size w w' := by
  have HN := hide hr.lenG
  have HM := hide (fun w => meet_any A n c gs w)
  have HA : Hid (agreeB gs = (decide (0 < gs.length) && decide ((meetR gs).2 = 0))) := hide rfl
  have HR0 := hide hr
  generalize agreeB gs = r at *
  generalize meetR gs = R at *
  obtain ⟨⟨m1, m2⟩, er⟩ := R
  clear hr
  go_enter Try.func45, Try.ntmps45
  go_wp2_with fail
  refine (HM.out _ HR0.out hn).mono ?_
  rintro e w1 ⟨rfl, hb1⟩
  go_wp2_with (refine pause (.store 39 _ _) rfl ?_)
  refine unpause ?_
  have B1 := hide (below_setRow (hb1.alloc hb1.size (.cells #[.int .i64 0, .int .i64 0] 39)) (g := w1.heap.size) hb1.size (gv m1 m2))
  refine wpList_store_blk rfl 39 (.tmp 3) (.tmp 8) rfl w1.heap.size rfl #[.int .i64 0, .int .i64 0] (gv m1 m2) rfl (Blk.new _ _ _) rfl info100 (gv_one _ _) ?_
  generalize (w1.alloc (.cells #[.int .i64 0, .int .i64 0] 39)).setRow w1.heap.size (gv m1 m2) = w2 at *
  have ha := HA.out
  rw [HN.out] at ha
  clear hb1 HM HR0 HN HA
  by_cases h0 : 0 < n
  · have h1 : decide (0 < n) = true := decide_eq_true h0
    have h1' : decide ((0 : Int) < (n : Int)) = true := decide_eq_true (by omega)
    rw [h1, Bool.true_and] at ha
    have HA := hide ha
    clear ha h0
    go_wp2_with fail
    go_ret
    exact ⟨ret_bool (by rw [HA.out]; rw [Bool.eq_iff_iff]; simp), B1.out⟩
  · have h1 : decide (0 < n) = false := decide_eq_false h0
    have h1' : decide ((0 : Int) < (n : Int)) = false := decide_eq_false (by omega)
    rw [h1, Bool.false_and] at ha
    have HA := hide ha
    clear ha h0
    go_wp2_with fail
    go_ret
    exact ⟨ret_bool (by rw [HA.out]), B1.out⟩
end Go.Proofs.Ytgidaifoiljgoaa
/- The document's gaps: Right. -/
namespace Go.Proofs.Ytgidaifoiljgoaa
set_option linter.unusedSimpArgs false
set_option linter.unusedVariables false
open Go.RowKit
set_option maxRecDepth 100000
theorem refRight_sat (g : Int × Int) : Sat Try.prog 55 [gA g] [] (bA (okG g)) [] := by
  refine sat_of_vc (T := tiOf Try.prog) (E := E0) Try.func55 rfl rfl hE0 hm0 rfl ?_
  conv => whnf
  repeat (any_goals (first
    | exact True.intro
    | (refine Or.inl ?_; conv => whnf)
    | (refine And.intro (fun _ => ?_) tf; conv => whnf)
    | (refine And.intro ft (fun _ => ?_); conv => whnf)
    | (refine And.intro (by kernel_rfl) ?_; conv => whnf)
    | (refine And.intro (by decide) ?_; conv => whnf)
    | (refine And.intro (fun _ => ?_) (fun h => absurd h (by decide)); conv => whnf)
    | (refine And.intro (fun h => absurd h (by decide)) (fun _ => ?_); conv => whnf)
    | (refine And.intro (fun _ => ?_) (fun _ => ?_) <;> conv => whnf)))
  all_goals refine ⟨[], ?_⟩
  repeat (any_goals (first | exact True.intro | exact rfl | with_reducible_and_instances rfl | exact (by kernel_rfl) | refine And.intro ?_ ?_))
  all_goals conv => whnf
theorem gapRight_sat (g : Int × Int) : Sat Try.prog 46 [gA g] [] (bA (okG g)) [] :=
  .of_calls (by repeat constructor) (by repeat constructor) fun w => gapRight_any g.1 g.2 w
theorem gR_flat (g : Int × Int) : FlatVs (gR g) (gcell g) := by repeat constructor
theorem meet_sat (gs : List (Int × Int)) (hn : gs.length ≤ 140737488351232) : Sat Try.prog 29 [.d (.sl 2 (gs.map gR))] [] (.tup [gA (meetR gs).1, iA (meetR gs).2]) [] := by
  intro F ρ w vals En hv
  obtain ⟨v, rfl, hv'⟩ := hv.one_out
  cases hv' with | d hv =>
    obtain ⟨A, c, rfl, h1, h2, hr⟩ := hv.sl_rd En.fb (flat_map gR_flat gs)
    rw [List.length_map] at hr ⊢
    refine (meet_any A _ c gs w hr hn).mono ?_
    rintro e w' ⟨rfl, hb⟩
    obtain ⟨S, E'⟩ := step_below En hb
    exact ⟨_, rfl, F, ρ, S, Keep.refl _, E', FlatW.ra (by repeat constructor)⟩
theorem agree_sat (gs : List (Int × Int)) (hn : gs.length ≤ 140737488351232) : Sat Try.prog 45 [.d (.sl 2 (gs.map gR))] [] (bA (agreeB gs)) [] := by
  intro F ρ w vals En hv
  obtain ⟨v, rfl, hv'⟩ := hv.one_out
  cases hv' with | d hv =>
    obtain ⟨A, c, rfl, h1, h2, hr⟩ := hv.sl_rd En.fb (flat_map gR_flat gs)
    rw [List.length_map] at hr ⊢
    refine (agree_any A _ c gs w hr hn).mono ?_
    rintro e w' ⟨rfl, hb⟩
    obtain ⟨S, E'⟩ := step_below En hb
    exact ⟨_, rfl, F, ρ, S, Keep.refl _, E', .d (.v _)⟩
def midZ (g : Int × Int) : Int := if okG g = true then IntKind.i64.wrap (IntKind.i64.wrap (BitVec.ofInt IntKind.i64.bits g.1 &&& BitVec.ofInt IntKind.i64.bits g.2).toNat + (IntKind.i64.wrap (BitVec.ofInt IntKind.i64.bits g.1 ^^^ BitVec.ofInt IntKind.i64.bits g.2).toNat).fdiv (2 ^ (min (1 : Int).toNat IntKind.i64.bits))) else 0
theorem mid_sat (g : Int × Int) : Sat Try.prog 54 [gA g] [] (iA (midZ g)) [] := by
  refine sat_of_vc (T := tiOf Try.prog) (E := E0) Try.func54 rfl rfl hE0 hm0 rfl ?_
  conv => whnf
  repeat (any_goals (first
    | exact True.intro
    | (refine Or.inl ?_; conv => whnf)
    | (refine And.intro (fun _ => ?_) tf; conv => whnf)
    | (refine And.intro ft (fun _ => ?_); conv => whnf)
    | (refine And.intro (by kernel_rfl) ?_; conv => whnf)
    | (refine And.intro (by decide) ?_; conv => whnf)
    | (refine And.intro (fun _ => ?_) (fun h => absurd h (by decide)); conv => whnf)
    | (refine And.intro (fun h => absurd h (by decide)) (fun _ => ?_); conv => whnf)
    | (refine And.intro (fun _ => ?_) (fun _ => ?_) <;> conv => whnf)
    | (refine ⟨_, _, (gapRight_sat _).pu rfl rfl, ?_⟩; conv => whnf)))
  · have h : ¬ okG g = true := (by (try simp only [decide_eq_true_eq, decide_eq_false_iff_not, Bool.not_eq_true', Bool.not_eq_false', Bool.not_eq_true, Bool.not_eq_false, beq_iff_eq, bne_iff_ne, beq_eq_false_iff_ne, bne_eq_false_iff_eq, ne_eq, Decidable.not_not, Int.natCast_eq_zero] at *); first | omega | assumption | (simp_all; done) | (simp_all; omega))
    unfold midZ
    rw [if_neg h]
    all_goals refine ⟨[], ?_⟩
    repeat (any_goals (first | exact True.intro | exact rfl | with_reducible_and_instances rfl | exact (by kernel_rfl) | refine And.intro ?_ ?_))
    all_goals conv => whnf
  · have h : okG g = true := (by (try simp only [decide_eq_true_eq, decide_eq_false_iff_not, Bool.not_eq_true', Bool.not_eq_false', Bool.not_eq_true, Bool.not_eq_false, beq_iff_eq, bne_iff_ne, beq_eq_false_iff_ne, bne_eq_false_iff_eq, ne_eq, Decidable.not_not, Int.natCast_eq_zero] at *); first | omega | assumption | (simp_all; done) | (simp_all; omega))
    unfold midZ
    rw [if_pos h]
    all_goals refine ⟨[], ?_⟩
    repeat (any_goals (first | exact True.intro | exact rfl | with_reducible_and_instances rfl | exact (by kernel_rfl) | refine And.intro ?_ ?_))
    all_goals conv => whnf
theorem meetL_snoc (a : Int × Int) (gs : List (Int × Int)) (x : Int × Int) : meetL a (gs ++ [x]) = (max (meetL a gs).1 x.1, min (meetL a gs).2 x.2) := by
  unfold meetL; rw [List.foldl_append]; rfl
theorem meetR_ok {gs : List (Int × Int)} (h : (meetR gs).2 = 0) : gs.all okG = true ∧ okG (meetL allG gs) = true ∧ (meetR gs).1 = meetL allG gs := by
  unfold meetR foldR at h ⊢
  by_cases h1 : gs.all okG = false
  · rw [if_pos h1] at h; cases h
  · rw [if_neg h1] at h ⊢
    by_cases h2 : okG (meetL allG gs) = true
    · rw [if_pos h2]; exact ⟨by simpa using h1, h2, rfl⟩
    · rw [if_neg h2] at h; cases h
def withB (g o : Int × Int) : Bool := okG g && decide (o.1 ≤ g.1) && decide (g.2 ≤ o.2)
theorem within_sat (g o : Int × Int) : Sat Try.prog 30 [gA g, gA o] [] (bA (withB g o)) [] := by
  refine sat_of_vc (T := tiOf Try.prog) (E := E0) Try.func30 rfl rfl hE0 hm0 rfl ?_
  conv => whnf
  repeat (any_goals (first
    | exact True.intro
    | (refine Or.inl ?_; conv => whnf)
    | (refine And.intro (fun _ => ?_) tf; conv => whnf)
    | (refine And.intro ft (fun _ => ?_); conv => whnf)
    | (refine And.intro (by kernel_rfl) ?_; conv => whnf)
    | (refine And.intro (by decide) ?_; conv => whnf)
    | (refine And.intro (fun _ => ?_) (fun h => absurd h (by decide)); conv => whnf)
    | (refine And.intro (fun h => absurd h (by decide)) (fun _ => ?_); conv => whnf)
    | (refine And.intro (fun _ => ?_) (fun _ => ?_) <;> conv => whnf)
    | (refine ⟨_, _, (gapRight_sat _).pu rfl rfl, ?_⟩; conv => whnf)))
  all_goals refine ⟨[], ?_⟩
  repeat (any_goals (first | exact True.intro | exact rfl | with_reducible_and_instances rfl | exact (by kernel_rfl) | refine And.intro ?_ ?_))
  all_goals conv => whnf
  all_goals first | (simp_all [withB]; done) | (simp_all [withB]; omega)
theorem meetL_le (a : Int × Int) (gs : List (Int × Int)) {x : Int × Int} (h : x ∈ gs) : x.1 ≤ (meetL a gs).1 ∧ (meetL a gs).2 ≤ x.2 := by
  have base : ∀ (gs : List (Int × Int)) (a : Int × Int), a.1 ≤ (meetL a gs).1 ∧ (meetL a gs).2 ≤ a.2 := by
    intro gs
    induction gs with
    | nil => intro a; exact ⟨Int.le_refl _, Int.le_refl _⟩
    | cons y r ih =>
      intro a
      have := ih (max a.1 y.1, min a.2 y.2)
      unfold meetL at this ⊢
      rw [List.foldl_cons]
      simp only at this
      omega
  induction gs generalizing a with
  | nil => simp at h
  | cons y r ih =>
    have e : meetL a (y :: r) = meetL (max a.1 y.1, min a.2 y.2) r := rfl
    rw [e]
    rcases List.mem_cons.1 h with q | q
    · subst q
      have := base r (max a.1 x.1, min a.2 x.2)
      simp only at this
      omega
    · exact ih _ q
theorem nat_avg (k : Nat) : ∀ (a b : Nat), a < 2 ^ k → b < 2 ^ k → a + b = 2 * (a &&& b) + (a ^^^ b) := by
  induction k with
  | zero => intro a b ha hb; simp at ha hb; subst ha hb; rfl
  | succ k ih =>
    intro a b ha hb
    have h := ih (a / 2) (b / 2) (by rw [Nat.pow_succ] at ha; omega) (by rw [Nat.pow_succ] at hb; omega)
    have e1 : (a &&& b) / 2 = a / 2 &&& b / 2 := Nat.and_div_two
    have e2 : (a ^^^ b) / 2 = a / 2 ^^^ b / 2 := Nat.xor_div_two
    have f1 : (a &&& b) % 2 = a % 2 &&& b % 2 := Nat.and_mod_two_pow (n := 1)
    have f2 : (a ^^^ b) % 2 = a % 2 ^^^ b % 2 := Nat.xor_mod_two_pow (n := 1)
    have f3 : a % 2 + b % 2 = 2 * (a % 2 &&& b % 2) + (a % 2 ^^^ b % 2) := by
      rcases Nat.mod_two_eq_zero_or_one a with h | h <;> rcases Nat.mod_two_eq_zero_or_one b with h' | h' <;> rw [h, h'] <;> rfl
    rw [← f1, ← f2] at f3
    rw [← e1, ← e2] at h
    omega
theorem avg_bv (x y : BitVec 64) : 2 * (x &&& y).toInt + (x ^^^ y).toInt = x.toInt + y.toInt := by
  have hn := nat_avg 64 x.toNat y.toNat (BitVec.isLt _) (BitVec.isLt _)
  rw [← BitVec.toNat_and, ← BitVec.toNat_xor] at hn
  rw [BitVec.toInt_eq_msb_cond x, BitVec.toInt_eq_msb_cond y, BitVec.toInt_eq_msb_cond (x &&& y), BitVec.toInt_eq_msb_cond (x ^^^ y), BitVec.msb_and, BitVec.msb_xor]
  generalize (x &&& y).toNat = C at *
  generalize (x ^^^ y).toNat = D at *
  generalize x.toNat = A at *
  generalize y.toNat = B at *
  cases x.msb <;> cases y.msb <;> simp <;> omega
theorem toInt_w (x : BitVec 64) : IntKind.i64.wrap (x.toNat : Int) = x.toInt := by
  have h := x.isLt
  rw [IntKind.wrap_i64, BitVec.toInt_eq_toNat_cond]
  split <;> omega
theorem mid_floor (g : Int × Int) (h1 : -9223372036854775808 ≤ g.1 ∧ g.1 ≤ 9223372036854775807) (h2 : -9223372036854775808 ≤ g.2 ∧ g.2 ≤ 9223372036854775807) : midZ g = if okG g = true then (g.1 + g.2) / 2 else 0 := by
  unfold midZ
  split
  case isFalse => rfl
  show IntKind.i64.wrap (IntKind.i64.wrap ((BitVec.ofInt 64 g.1 &&& BitVec.ofInt 64 g.2).toNat : Int) + (IntKind.i64.wrap ((BitVec.ofInt 64 g.1 ^^^ BitVec.ofInt 64 g.2).toNat : Int)).fdiv (2 ^ min (1 : Int).toNat IntKind.i64.bits)) = _
  rw [toInt_w, toInt_w, show min (1 : Int).toNat IntKind.i64.bits = 1 from rfl, show (2 : Int) ^ 1 = 2 from rfl, Int.fdiv_eq_ediv_of_nonneg _ (by omega)]
  have ha : (BitVec.ofInt 64 g.1).toInt = g.1 := by rw [BitVec.toInt_ofInt]; exact Int.bmod_eq_of_le (by omega) (by omega)
  have hb : (BitVec.ofInt 64 g.2).toInt = g.2 := by rw [BitVec.toInt_ofInt]; exact Int.bmod_eq_of_le (by omega) (by omega)
  have key := avg_bv (BitVec.ofInt 64 g.1) (BitVec.ofInt 64 g.2)
  rw [ha, hb] at key
  show IntKind.i64.wrap ((BitVec.ofInt 64 g.1 &&& BitVec.ofInt 64 g.2).toInt + (BitVec.ofInt 64 g.1 ^^^ BitVec.ofInt 64 g.2).toInt / 2) = _
  rw [wi (by omega) (by omega)]
  omega
end Go.Proofs.Ytgidaifoiljgoaa
/- clock.Clock by its conditions: what it calls, New, At. -/
namespace Go.Proofs.Ytgidaifoiljgoaa
set_option linter.unusedSimpArgs false
set_option linter.unusedVariables false
open Go.RowKit
set_option maxRecDepth 100000
abbrev sR (s : Smp) : List D := [iD s.asked, iD s.got, iD s.sent, iD s.came]
abbrev sA (s : Smp) : AV := .d (.agg (sR s))
theorem right_sat (s : Smp) : Sat Try.prog 25 [sA s] [] (bA (okS s)) [] :=
  .of_calls (by repeat constructor) (by repeat constructor) fun w => right_any s w
theorem isTime_sat (t : Int) : Sat Try.prog 51 [iA t] [] (bA (isT t)) [] :=
  .of_same (by repeat constructor) (by repeat constructor) fun w => isTime_any t w
theorem isRate_sat (t : Int) : Sat Try.prog 42 [iA t] [] (bA (okRate t)) [] :=
  .of_same (by repeat constructor) (by repeat constructor) fun w => isRate_any t w
theorem at_sat (s : Smp) (stamp rho : Int) (h1 : -9223372036854775808 ≤ stamp) (h2 : stamp ≤ 9223372036854775807) : Sat Try.prog 24 [sA s, iA stamp, iA rho] [] (.tup [gA (atR s stamp rho).1, iA (atR s stamp rho).2]) [] :=
  .of_calls (by repeat constructor) (by repeat constructor) fun w => at_any s stamp rho w h1 h2
theorem sR_flat (s : Smp) : FlatVs (sR s) (smv s).toList := by repeat constructor
structure CSt where
  rho : Int
  least : Int
  held : Bool
  streak : Int
  list : List Smp
abbrev cR (s : CSt) : AObj := .cells [iA s.rho, iA s.least, bA s.held, iA s.streak, .own 1]
/-- A clock and its samples. -/
abbrev cH (s : CSt) : List AObj := [cR s, .sl 4 (s.list.map sR)]
theorem new_ok (rho least : Int) (h : okRate rho = true) (h1 : 0 ≤ least) (h2 : least ≤ 100) : Sat Try.prog 13 [iA rho, iA least] [] (.tup [.ptr 0 0, iA 0]) (cH ⟨rho, least, false, 0, []⟩) := by
  refine sat_of_vc (T := tiOf Try.prog) (E := E0) Try.func13 rfl rfl hE0 hm0 rfl ?_
  conv => whnf
  repeat (any_goals (first
    | exact True.intro
    | (refine Or.inl ?_; conv => whnf)
    | (refine And.intro (fun _ => ?_) tf; conv => whnf)
    | (refine And.intro ft (fun _ => ?_); conv => whnf)
    | (refine And.intro (by kernel_rfl) ?_; conv => whnf)
    | (refine And.intro (by decide) ?_; conv => whnf)
    | (refine And.intro (fun _ => ?_) (fun h => absurd h (by decide)); conv => whnf)
    | (refine And.intro (fun h => absurd h (by decide)) (fun _ => ?_); conv => whnf)
    | (refine And.intro (fun _ => ?_) (fun _ => ?_) <;> conv => whnf)
    | (refine ⟨_, _, (isRate_sat _).pu rfl rfl, ?_⟩; conv => whnf)))
  all_goals try (exfalso; simp only [decide_eq_true_eq, decide_eq_false_iff_not, Bool.not_eq_true', Bool.not_eq_false', Bool.not_eq_true, Bool.not_eq_false, beq_iff_eq, bne_iff_ne, beq_eq_false_iff_ne, bne_eq_false_iff_eq, ne_eq, Decidable.not_not] at *; first | omega | contradiction | (simp_all; done) | (simp_all; omega))
  all_goals refine ⟨[], ?_⟩
  repeat (any_goals (first | exact True.intro | exact rfl | with_reducible_and_instances rfl | exact (by kernel_rfl) | refine And.intro ?_ ?_))
  all_goals conv => whnf
theorem new_err (rho least : Int) (h : okRate rho = false ∨ least < 0 ∨ 100 < least) : Sat Try.prog 13 [iA rho, iA least] [] (.tup [.d (.v (.pointer none)), iA 11]) [] := by
  refine sat_of_vc (T := tiOf Try.prog) (E := E0) Try.func13 rfl rfl hE0 hm0 rfl ?_
  conv => whnf
  repeat (any_goals (first
    | exact True.intro
    | (refine Or.inl ?_; conv => whnf)
    | (refine And.intro (fun _ => ?_) tf; conv => whnf)
    | (refine And.intro ft (fun _ => ?_); conv => whnf)
    | (refine And.intro (by kernel_rfl) ?_; conv => whnf)
    | (refine And.intro (by decide) ?_; conv => whnf)
    | (refine And.intro (fun _ => ?_) (fun h => absurd h (by decide)); conv => whnf)
    | (refine And.intro (fun h => absurd h (by decide)) (fun _ => ?_); conv => whnf)
    | (refine And.intro (fun _ => ?_) (fun _ => ?_) <;> conv => whnf)
    | (refine ⟨_, _, (isRate_sat _).pu rfl rfl, ?_⟩; conv => whnf)))
  all_goals try (exfalso; simp only [decide_eq_true_eq, decide_eq_false_iff_not, Bool.not_eq_true', Bool.not_eq_false', Bool.not_eq_true, Bool.not_eq_false, beq_iff_eq, bne_iff_ne, beq_eq_false_iff_ne, bne_eq_false_iff_eq, ne_eq, Decidable.not_not] at *; first | omega | contradiction | (simp_all; done) | (simp_all; omega))
  all_goals refine ⟨[], ?_⟩
  repeat (any_goals (first | exact True.intro | exact rfl | with_reducible_and_instances rfl | exact (by kernel_rfl) | refine And.intro ?_ ?_))
  all_goals conv => whnf
theorem held_sat (s : CSt) : Sat Try.prog 27 [.ptr 0 0] (cH s) (bA s.held) (cH s) := by
  refine sat_of_vc (T := tiOf Try.prog) (E := E0) Try.func27 rfl rfl hE0 hm0 rfl ?_
  conv => whnf
  repeat (any_goals (first
    | exact True.intro
    | (refine Or.inl ?_; conv => whnf)
    | (refine And.intro (fun _ => ?_) tf; conv => whnf)
    | (refine And.intro ft (fun _ => ?_); conv => whnf)
    | (refine And.intro (by kernel_rfl) ?_; conv => whnf)
    | (refine And.intro (by decide) ?_; conv => whnf)
    | (refine And.intro (fun _ => ?_) (fun h => absurd h (by decide)); conv => whnf)
    | (refine And.intro (fun h => absurd h (by decide)) (fun _ => ?_); conv => whnf)
    | (refine And.intro (fun _ => ?_) (fun _ => ?_) <;> conv => whnf)))
  all_goals refine ⟨[], ?_⟩
  repeat (any_goals (first | exact True.intro | exact rfl | with_reducible_and_instances rfl | exact (by kernel_rfl) | refine And.intro ?_ ?_))
  all_goals conv => whnf
theorem streak_sat (s : CSt) : Sat Try.prog 26 [.ptr 0 0] (cH s) (iA s.streak) (cH s) := by
  refine sat_of_vc (T := tiOf Try.prog) (E := E0) Try.func26 rfl rfl hE0 hm0 rfl ?_
  conv => whnf
  repeat (any_goals (first
    | exact True.intro
    | (refine Or.inl ?_; conv => whnf)
    | (refine And.intro (fun _ => ?_) tf; conv => whnf)
    | (refine And.intro ft (fun _ => ?_); conv => whnf)
    | (refine And.intro (by kernel_rfl) ?_; conv => whnf)
    | (refine And.intro (by decide) ?_; conv => whnf)
    | (refine And.intro (fun _ => ?_) (fun h => absurd h (by decide)); conv => whnf)
    | (refine And.intro (fun h => absurd h (by decide)) (fun _ => ?_); conv => whnf)
    | (refine And.intro (fun _ => ?_) (fun _ => ?_) <;> conv => whnf)))
  all_goals refine ⟨[], ?_⟩
  repeat (any_goals (first | exact True.intro | exact rfl | with_reducible_and_instances rfl | exact (by kernel_rfl) | refine And.intro ?_ ?_))
  all_goals conv => whnf
end Go.Proofs.Ytgidaifoiljgoaa
/- wide.Sub. -/
namespace Go.Proofs.Ytgidaifoiljgoaa
open Go.RowKit
set_option linter.unusedVariables false
set_option linter.unusedSimpArgs false
theorem sub64_run (x y : Nat) (w : World) : (callFunc 122 #[.int .u64 (x : Int), .int .u64 (y : Int), .int .u64 0]).run Try.prog w =
    .ok (.value (.tuple #[.int .u64 (((x + 18446744073709551616 - y) % 18446744073709551616 : Nat) : Int), .int .u64 ((if x < y then 1 else 0 : Nat) : Int)])) w := by
  rw [run_callFunc_extern Try.func122 (by kernel_rfl) (by kernel_rfl) (by kernel_rfl) (e := sub64Entry) (by kernel_rfl)]
  have := run_sub64 (P := Try.prog) x y 0 (by omega) w
  rw [Nat.add_zero, Nat.sub_zero] at this
  rw [show (0 : Int) = ((0 : Nat) : Int) from rfl, this]
  rfl
theorem over_sub (a b o : Int) (a1 : -9223372036854775808 ≤ a) (a2 : a ≤ 9223372036854775807) (b1 : -9223372036854775808 ≤ b) (b2 : b ≤ 9223372036854775807) (o1 : 0 ≤ o) (o2 : o ≤ 1) (h1 : -9223372036854775808 ≤ a - b - o) (h2 : a - b - o ≤ 9223372036854775807) :
    decide (bits .and .i64 (bits .xor .i64 a b) (bits .xor .i64 a (wrap64 (wrap64 (a - b) - wrap64 o))) < 0) = false ∧ wrap64 (wrap64 (a - b) - wrap64 o) = a - b - o := by
  have e : wrap64 (wrap64 (a - b) - wrap64 o) = a - b - o := by unfold wrap64; omega
  rw [e]
  refine ⟨?_, rfl⟩
  rw [and_toInt, ← BitVec.msb_eq_toInt, BitVec.msb_and, xor_toInt, xor_toInt, BitVec.ofInt_toInt, BitVec.ofInt_toInt, BitVec.msb_xor, BitVec.msb_xor, msb_in a a1 a2, msb_in b b1 b2, msb_in _ h1 h2]
  by_cases q1 : a < 0 <;> by_cases q2 : b < 0 <;> by_cases q3 : a - b - o < 0 <;> simp [q1, q2, q3] <;> omega
theorem info131 : (Try.prog.info? 131).map (·.size) = some 2 := by kernel_rfl
def wcs (S : Int) : Array Value := #[.int .i64 (S / 18446744073709551616), .int .u64 (S % 18446744073709551616)]
def inW (S : Int) : Prop := -170141183460469231731687303715884105728 ≤ S ∧ S ≤ 170141183460469231731687303715884105727
set_option maxRecDepth 100000 in
theorem wsub_any (A B : Int) (hA : inW A) (hB : inW B) (hD : inW (A - B)) (w : World) : Calls Try.prog 106 #[.agg (wcs A), .agg (wcs B)] w fun e w' => e = .returned (.tuple #[.agg (wcs (A - B)), .int .i64 0]) ∧ Below w.heap.size w w' := by
  unfold inW at hA hB hD
  obtain ⟨x, hx⟩ : ∃ x : Nat, A % 18446744073709551616 = x := ⟨(A % 18446744073709551616).toNat, by omega⟩
  obtain ⟨y, hy⟩ : ∃ y : Nat, B % 18446744073709551616 = y := ⟨(B % 18446744073709551616).toNat, by omega⟩
  have hdf : (((x + 18446744073709551616 - y) % 18446744073709551616 : Nat) : Int) = (A - B) % 18446744073709551616 := by omega
  have hbo : A / 18446744073709551616 - B / 18446744073709551616 - ((if x < y then 1 else 0 : Nat) : Int) = (A - B) / 18446744073709551616 := by split <;> omega
  have hb0 : (0 : Int) ≤ ((if x < y then 1 else 0 : Nat) : Int) ∧ ((if x < y then 1 else 0 : Nat) : Int) ≤ 1 := by split <;> omega
  have HA := fun w => sub64_run x y w
  rw [hdf] at HA
  generalize ((if x < y then 1 else 0 : Nat) : Int) = o at *
  unfold wcs
  rw [hx, hy]
  obtain ⟨HO, HW⟩ := over_sub (A / 18446744073709551616) (B / 18446744073709551616) o (by omega) (by omega) (by omega) (by omega) hb0.1 hb0.2 (by omega) (by omega)
  rw [hbo] at HW
  rw [HW] at HO
  generalize A / 18446744073709551616 = a at *
  generalize B / 18446744073709551616 = b at *
  generalize (A - B) / 18446744073709551616 = d at *
  generalize (A - B) % 18446744073709551616 = df at *
  have HB := hide HA
  clear hA hB hD hdf hbo hb0 hx hy HA
  go_enter Try.func106, Try.ntmps106
  go_wp2_with (simp only [HB.out])
  refine bodyPost_ret_by (results_cell2 rfl _ (w.heap.size + 1 + 1) rfl #[.int .i64 d, .int .u64 df] _ (by
    have h := Blk.new ((w.alloc (.cells #[.int .i64 a, .int .u64 (x : Int)] 131)).alloc (.cells #[.int .i64 b, .int .u64 (y : Int)] 131)) 131 #[.int .i64 d, .int .u64 df]
    simpa using h) Try.underlying131 rfl info131) rfl ⟨rfl, (((Below.refl _ _).alloc (Nat.le_refl _) _).alloc (by simp) _).alloc (by simp; omega) _⟩
end Go.Proofs.Ytgidaifoiljgoaa
/- wide numbers, by conditions. -/
namespace Go.Proofs.Ytgidaifoiljgoaa
set_option linter.unusedSimpArgs false
set_option linter.unusedVariables false
open Go.RowKit
set_option maxRecDepth 100000
abbrev uD (z : Int) : D := .v (.int .u64 z)
abbrev uA (z : Int) : AV := .d (.v (.int .u64 z))
abbrev wR (S : Int) : List D := [iD (S / 18446744073709551616), uD (S % 18446744073709551616)]
abbrev wA (S : Int) : AV := .d (.agg (wR S))
theorem sub_sat (A B : Int) (hA : inW A) (hB : inW B) (hD : inW (A - B)) : Sat Try.prog 106 [wA A, wA B] [] (.tup [wA (A - B), iA 0]) [] :=
  .of_calls (by repeat constructor) (by repeat constructor) fun w => wsub_any A B hA hB hD w
theorem minus_sat (A B : Int) (hA : inW A) (hB : inW B) (hD : inW (A - B)) : Sat Try.prog 91 [wA A, wA B] [] (wA (A - B)) [] := by
  refine sat_of_vc (T := tiOf Try.prog) (E := E0) Try.func91 rfl rfl hE0 hm0 rfl ?_
  conv => whnf
  repeat (any_goals (first
    | exact True.intro
    | (refine Or.inl ?_; conv => whnf)
    | (refine And.intro (fun _ => ?_) tf; conv => whnf)
    | (refine And.intro ft (fun _ => ?_); conv => whnf)
    | (refine And.intro (by kernel_rfl) ?_; conv => whnf)
    | (refine And.intro (by decide) ?_; conv => whnf)
    | (refine And.intro (fun _ => ?_) (fun h => absurd h (by decide)); conv => whnf)
    | (refine And.intro (fun h => absurd h (by decide)) (fun _ => ?_); conv => whnf)
    | (refine And.intro (fun _ => ?_) (fun _ => ?_) <;> conv => whnf)
    | (refine ⟨_, _, (sub_sat A B hA hB hD).pu rfl rfl, ?_⟩; conv => whnf)))
  all_goals refine ⟨[], ?_⟩
  repeat (any_goals (first | exact True.intro | exact rfl | with_reducible_and_instances rfl | exact (by kernel_rfl) | refine And.intro ?_ ?_))
  all_goals conv => whnf
theorem wof_sat : Sat Try.prog 108 [iA 1000000] [] (wA 1000000) [] := by
  refine sat_of_vc (T := tiOf Try.prog) (E := E0) Try.func108 rfl rfl hE0 hm0 rfl ?_
  conv => whnf
  repeat (any_goals (first
    | exact True.intro
    | (refine Or.inl ?_; conv => whnf)
    | (refine And.intro (fun _ => ?_) tf; conv => whnf)
    | (refine And.intro ft (fun _ => ?_); conv => whnf)
    | (refine And.intro (by kernel_rfl) ?_; conv => whnf)
    | (refine And.intro (by decide) ?_; conv => whnf)
    | (refine And.intro (fun _ => ?_) (fun h => absurd h (by decide)); conv => whnf)
    | (refine And.intro (fun h => absurd h (by decide)) (fun _ => ?_); conv => whnf)
    | (refine And.intro (fun _ => ?_) (fun _ => ?_) <;> conv => whnf)))
  all_goals refine ⟨[], ?_⟩
  repeat (any_goals (first | exact True.intro | exact rfl | with_reducible_and_instances rfl | exact (by kernel_rfl) | refine And.intro ?_ ?_))
  all_goals conv => whnf
def cmpZ (A B : Int) : Int := if B < A then 1 else if A = B then 0 else -1
theorem cmpW_sat (A B : Int) : Sat Try.prog 107 [wA A, wA B] [] (iA (cmpZ A B)) [] := by
  have ha : A = A / 18446744073709551616 * 18446744073709551616 + A % 18446744073709551616 := by omega
  have hb : B = B / 18446744073709551616 * 18446744073709551616 + B % 18446744073709551616 := by omega
  have hc : cmpZ A B = if B < A then 1 else if A = B then 0 else -1 := rfl
  generalize cmpZ A B = c at hc ⊢
  refine sat_of_vc (T := tiOf Try.prog) (E := E0) Try.func107 rfl rfl hE0 hm0 rfl ?_
  conv => whnf
  repeat (any_goals (first
    | exact True.intro
    | (refine Or.inl ?_; conv => whnf)
    | (refine And.intro (fun _ => ?_) tf; conv => whnf)
    | (refine And.intro ft (fun _ => ?_); conv => whnf)
    | (refine And.intro (by kernel_rfl) ?_; conv => whnf)
    | (refine And.intro (by decide) ?_; conv => whnf)
    | (refine And.intro (fun _ => ?_) (fun h => absurd h (by decide)); conv => whnf)
    | (refine And.intro (fun h => absurd h (by decide)) (fun _ => ?_); conv => whnf)
    | (refine And.intro (fun _ => ?_) (fun _ => ?_) <;> conv => whnf)
    | (refine ⟨_, _, eqS (by kernel_rfl), ?_⟩; conv => whnf)))
  · rw [hc, if_pos (by simp only [decide_eq_true_eq, decide_eq_false_iff_not, Bool.and_eq_true, Bool.and_eq_false_iff, beq_iff_eq, beq_eq_false_iff_ne] at *; omega)]
    all_goals refine ⟨[], ?_⟩
    repeat (any_goals (first | exact True.intro | exact rfl | with_reducible_and_instances rfl | exact (by kernel_rfl) | refine And.intro ?_ ?_))
    all_goals conv => whnf
  · rw [hc, if_pos (by simp only [decide_eq_true_eq, decide_eq_false_iff_not, Bool.and_eq_true, Bool.and_eq_false_iff, beq_iff_eq, beq_eq_false_iff_ne] at *; omega)]
    all_goals refine ⟨[], ?_⟩
    repeat (any_goals (first | exact True.intro | exact rfl | with_reducible_and_instances rfl | exact (by kernel_rfl) | refine And.intro ?_ ?_))
    all_goals conv => whnf
  · rw [hc, if_neg (by simp only [decide_eq_true_eq, decide_eq_false_iff_not, Bool.and_eq_true, Bool.and_eq_false_iff, beq_iff_eq, beq_eq_false_iff_ne] at *; omega), if_pos (by simp only [decide_eq_true_eq, decide_eq_false_iff_not, Bool.and_eq_true, Bool.and_eq_false_iff, beq_iff_eq, beq_eq_false_iff_ne] at *; omega)]
    all_goals refine ⟨[], ?_⟩
    repeat (any_goals (first | exact True.intro | exact rfl | with_reducible_and_instances rfl | exact (by kernel_rfl) | refine And.intro ?_ ?_))
    all_goals conv => whnf
  · rw [hc, if_neg (by simp only [decide_eq_true_eq, decide_eq_false_iff_not, Bool.and_eq_true, Bool.and_eq_false_iff, beq_iff_eq, beq_eq_false_iff_ne] at *; omega), if_neg (by simp only [decide_eq_true_eq, decide_eq_false_iff_not, Bool.and_eq_true, Bool.and_eq_false_iff, beq_iff_eq, beq_eq_false_iff_ne] at *; omega)]
    all_goals refine ⟨[], ?_⟩
    repeat (any_goals (first | exact True.intro | exact rfl | with_reducible_and_instances rfl | exact (by kernel_rfl) | refine And.intro ?_ ?_))
    all_goals conv => whnf
  · rw [hc, if_neg (by simp only [decide_eq_true_eq, decide_eq_false_iff_not, Bool.and_eq_true, Bool.and_eq_false_iff, beq_iff_eq, beq_eq_false_iff_ne] at *; omega), if_pos (by simp only [decide_eq_true_eq, decide_eq_false_iff_not, Bool.and_eq_true, Bool.and_eq_false_iff, beq_iff_eq, beq_eq_false_iff_ne] at *; omega)]
    all_goals refine ⟨[], ?_⟩
    repeat (any_goals (first | exact True.intro | exact rfl | with_reducible_and_instances rfl | exact (by kernel_rfl) | refine And.intro ?_ ?_))
    all_goals conv => whnf
  · rw [hc, if_neg (by simp only [decide_eq_true_eq, decide_eq_false_iff_not, Bool.and_eq_true, Bool.and_eq_false_iff, beq_iff_eq, beq_eq_false_iff_ne] at *; omega), if_neg (by simp only [decide_eq_true_eq, decide_eq_false_iff_not, Bool.and_eq_true, Bool.and_eq_false_iff, beq_iff_eq, beq_eq_false_iff_ne] at *; omega)]
    all_goals refine ⟨[], ?_⟩
    repeat (any_goals (first | exact True.intro | exact rfl | with_reducible_and_instances rfl | exact (by kernel_rfl) | refine And.intro ?_ ?_))
    all_goals conv => whnf
theorem size_sat (a : Int) (h : 0 ≤ a) (h' : a ≤ 9223372036854775807) : Sat Try.prog 104 [iA a] [] (uA a) [] := by
  refine sat_of_vc (T := tiOf Try.prog) (E := E0) Try.func104 rfl rfl hE0 hm0 rfl ?_
  conv => whnf
  repeat (any_goals (first
    | exact True.intro
    | (refine Or.inl ?_; conv => whnf)
    | (refine And.intro (fun _ => ?_) tf; conv => whnf)
    | (refine And.intro ft (fun _ => ?_); conv => whnf)
    | (refine And.intro (by kernel_rfl) ?_; conv => whnf)
    | (refine And.intro (by decide) ?_; conv => whnf)
    | (refine And.intro (fun _ => ?_) (fun h => absurd h (by decide)); conv => whnf)
    | (refine And.intro (fun h => absurd h (by decide)) (fun _ => ?_); conv => whnf)
    | (refine And.intro (fun _ => ?_) (fun _ => ?_) <;> conv => whnf)))
  all_goals try (exfalso; simp only [decide_eq_true_eq, decide_eq_false_iff_not, Bool.not_eq_true', Bool.not_eq_false', Bool.not_eq_true, Bool.not_eq_false, beq_iff_eq, bne_iff_ne, beq_eq_false_iff_ne, bne_eq_false_iff_eq, ne_eq, Decidable.not_not] at *; first | omega | contradiction | (simp_all; done) | (simp_all; omega))
  all_goals refine ⟨[], ?_⟩
  repeat (any_goals (first | exact True.intro | exact rfl | with_reducible_and_instances rfl | exact (by kernel_rfl) | refine And.intro ?_ ?_))
  all_goals conv => whnf
  exact congrArg uA (by rw [IntKind.wrap_u64]; omega)
theorem signed_sat (hi lo : Int) (neg : Bool) (h : neg = false) : Sat Try.prog 105 [uA hi, uA lo, bA neg] [] (.d (.agg [iD (IntKind.i64.wrap hi), uD lo])) [] := by
  subst h
  refine sat_of_vc (T := tiOf Try.prog) (E := E0) Try.func105 rfl rfl hE0 hm0 rfl ?_
  conv => whnf
  repeat (any_goals (first
    | exact True.intro
    | (refine Or.inl ?_; conv => whnf)
    | (refine And.intro (fun _ => ?_) tf; conv => whnf)
    | (refine And.intro ft (fun _ => ?_); conv => whnf)
    | (refine And.intro (by kernel_rfl) ?_; conv => whnf)
    | (refine And.intro (by decide) ?_; conv => whnf)
    | (refine And.intro (fun _ => ?_) (fun h => absurd h (by decide)); conv => whnf)
    | (refine And.intro (fun h => absurd h (by decide)) (fun _ => ?_); conv => whnf)
    | (refine And.intro (fun _ => ?_) (fun _ => ?_) <;> conv => whnf)))
  all_goals refine ⟨[], ?_⟩
  repeat (any_goals (first | exact True.intro | exact rfl | with_reducible_and_instances rfl | exact (by kernel_rfl) | refine And.intro ?_ ?_))
  all_goals conv => whnf
theorem mul64_sat (a b : Int) (ha : 0 ≤ a) (ha' : a ≤ 9223372036854775807) (hb : 0 ≤ b) (hb' : b ≤ 9223372036854775807) : Sat Try.prog 81 [uA a, uA b] [] (.tup [uA (a * b / 18446744073709551616), uA (a * b % 18446744073709551616)]) [] := by
  obtain ⟨x, rfl⟩ := Int.eq_ofNat_of_zero_le ha
  obtain ⟨y, rfl⟩ := Int.eq_ofNat_of_zero_le hb
  refine .of_same (by repeat constructor) (by repeat constructor) fun w => ?_
  exact (Try.bits_Mul64 x y (by omega) (by omega) w).mono fun e w' ⟨h1, h2⟩ => ⟨h1, h2.symm⟩
theorem times_sat (a b : Int) (ha : 0 ≤ a) (ha' : a ≤ 9223372036854775807) (hb : 0 ≤ b) (hb' : b ≤ 9223372036854775807) : Sat Try.prog 90 [iA a, iA b] [] (wA (a * b)) [] := by
  have hp : 0 ≤ a * b := Int.mul_nonneg ha hb
  have hq : a * b ≤ 9223372036854775807 * 9223372036854775807 := Int.mul_le_mul ha' hb' hb (by omega)
  have hn : (decide (a < 0) != decide (b < 0)) = false := by
    rw [decide_eq_false (by omega), decide_eq_false (by omega)]; rfl
  have sg := signed_sat (a * b / 18446744073709551616) (a * b % 18446744073709551616) _ hn
  rw [wi (by omega) (by omega)] at sg
  refine sat_of_vc (T := tiOf Try.prog) (E := E0) Try.func90 rfl rfl hE0 hm0 rfl ?_
  conv => whnf
  repeat (any_goals (first
    | exact True.intro
    | (refine Or.inl ?_; conv => whnf)
    | (refine And.intro (fun _ => ?_) tf; conv => whnf)
    | (refine And.intro ft (fun _ => ?_); conv => whnf)
    | (refine And.intro (by kernel_rfl) ?_; conv => whnf)
    | (refine And.intro (by decide) ?_; conv => whnf)
    | (refine And.intro (fun _ => ?_) (fun h => absurd h (by decide)); conv => whnf)
    | (refine And.intro (fun h => absurd h (by decide)) (fun _ => ?_); conv => whnf)
    | (refine And.intro (fun _ => ?_) (fun _ => ?_) <;> conv => whnf)
    | (refine ⟨_, _, (size_sat a ha ha').pu rfl rfl, ?_⟩; conv => whnf)
    | (refine ⟨_, _, (size_sat b hb hb').pu rfl rfl, ?_⟩; conv => whnf)
    | (refine ⟨_, _, (mul64_sat a b ha ha' hb hb').pu rfl rfl, ?_⟩; conv => whnf)
    | (refine ⟨_, _, sg.pu rfl rfl, ?_⟩; conv => whnf)
    | (refine ⟨_, _, neB (by kernel_rfl), ?_⟩; conv => whnf)))
  all_goals refine ⟨[], ?_⟩
  repeat (any_goals (first | exact True.intro | exact rfl | with_reducible_and_instances rfl | exact (by kernel_rfl) | refine And.intro ?_ ?_))
  all_goals conv => whnf
theorem above_sat (A B : Int) (hA : inW A) (hB : inW B) (hD : inW (A - B)) : Sat Try.prog 92 [wA A, wA B] [] (bA (decide (1000000 < A - B))) [] := by
  have hc : cmpZ (A - B) 1000000 = if (1000000 : Int) < A - B then 1 else if A - B = 1000000 then 0 else -1 := rfl
  have cs := cmpW_sat (A - B) 1000000
  have hr : decide (cmpZ (A - B) 1000000 > 0) = decide (1000000 < A - B) := by
    rw [hc]
    by_cases h : (1000000 : Int) < A - B
    · rw [if_pos h, decide_eq_true h]; rfl
    · rw [if_neg h, decide_eq_false h]; split <;> rfl
  rw [← hr]
  generalize cmpZ (A - B) 1000000 = c at *
  refine sat_of_vc (T := tiOf Try.prog) (E := E0) Try.func92 rfl rfl hE0 hm0 rfl ?_
  conv => whnf
  repeat (any_goals (first
    | exact True.intro
    | (refine Or.inl ?_; conv => whnf)
    | (refine And.intro (fun _ => ?_) tf; conv => whnf)
    | (refine And.intro ft (fun _ => ?_); conv => whnf)
    | (refine And.intro (by kernel_rfl) ?_; conv => whnf)
    | (refine And.intro (by decide) ?_; conv => whnf)
    | (refine And.intro (fun _ => ?_) (fun h => absurd h (by decide)); conv => whnf)
    | (refine And.intro (fun h => absurd h (by decide)) (fun _ => ?_); conv => whnf)
    | (refine And.intro (fun _ => ?_) (fun _ => ?_) <;> conv => whnf)
    | (refine ⟨_, _, (minus_sat A B hA hB hD).pu rfl rfl, ?_⟩; conv => whnf)
    | (refine ⟨_, _, wof_sat.pu rfl rfl, ?_⟩; conv => whnf)
    | (refine ⟨_, _, cs.pu rfl rfl, ?_⟩; conv => whnf)))
  all_goals refine ⟨[], ?_⟩
  repeat (any_goals (first | exact True.intro | exact rfl | with_reducible_and_instances rfl | exact (by kernel_rfl) | refine And.intro ?_ ?_))
  all_goals conv => whnf
theorem least_sat (A B : Int) : Sat Try.prog 93 [wA A, wA B] [] (wA (min A B)) [] := by
  have hc : cmpZ B A = if A < B then 1 else if B = A then 0 else -1 := rfl
  have cs := cmpW_sat B A
  have h1 : cmpZ B A < 0 → min A B = B := fun h => by rw [hc] at h; split at h <;> omega
  have h2 : ¬ cmpZ B A < 0 → min A B = A := fun h => by
    rw [hc] at h
    by_cases q : A < B
    · omega
    · rw [if_neg q] at h
      by_cases q' : B = A
      · omega
      · rw [if_neg q'] at h; exact absurd (by decide) h
  generalize cmpZ B A = c at *
  refine sat_of_vc (T := tiOf Try.prog) (E := E0) Try.func93 rfl rfl hE0 hm0 rfl ?_
  conv => whnf
  repeat (any_goals (first
    | exact True.intro
    | (refine Or.inl ?_; conv => whnf)
    | (refine And.intro (fun _ => ?_) tf; conv => whnf)
    | (refine And.intro ft (fun _ => ?_); conv => whnf)
    | (refine And.intro (by kernel_rfl) ?_; conv => whnf)
    | (refine And.intro (by decide) ?_; conv => whnf)
    | (refine And.intro (fun _ => ?_) (fun h => absurd h (by decide)); conv => whnf)
    | (refine And.intro (fun h => absurd h (by decide)) (fun _ => ?_); conv => whnf)
    | (refine And.intro (fun _ => ?_) (fun _ => ?_) <;> conv => whnf)
    | (refine ⟨_, _, cs.pu rfl rfl, ?_⟩; conv => whnf)))
  · rw [h1 (of_decide_eq_true ‹decide (c < 0) = true›)]
    all_goals refine ⟨[], ?_⟩
    repeat (any_goals (first | exact True.intro | exact rfl | with_reducible_and_instances rfl | exact (by kernel_rfl) | refine And.intro ?_ ?_))
    all_goals conv => whnf
  · rw [h2 (of_decide_eq_false ‹decide (c < 0) = false›)]
    all_goals refine ⟨[], ?_⟩
    repeat (any_goals (first | exact True.intro | exact rfl | with_reducible_and_instances rfl | exact (by kernel_rfl) | refine And.intro ?_ ?_))
    all_goals conv => whnf
end Go.Proofs.Ytgidaifoiljgoaa
