/- bits.Div64. -/
import Derived.Test.YtgidaifoiljgoaaProg
import Derived.Test.YtgidaifoiljgoaaShelf
import Derived.Test.YtgidaifoiljgoaaDivPlain
import Derived.Deep.CutRange
import Derived.Deep.CutBlock
import Derived.Laws.Bits64b
import Derived.Outline
import Derived.Lib.ItoaNum
namespace Go.Proofs.Ytgidaifoiljgoaa
open Go.RowKit
set_option linter.unusedVariables false
set_option linter.unusedSimpArgs false
theorem w64_nat (a : Nat) (h : a < 18446744073709551616) : IntKind.u64.wrap (a : Int) = (a : Int) := by rw [IntKind.wrap_u64]; omega
theorem w64_mod (a : Nat) : IntKind.u64.wrap (a : Int) = ((a % 18446744073709551616 : Nat) : Int) := by rw [IntKind.wrap_u64]; omega
theorem spell_shl (a s : Nat) : (a : Int) * 2 ^ s = ((a * 2 ^ s : Nat) : Int) := by rw [Int.natCast_mul, Int.natCast_pow]; rfl
theorem spell_shr (a s : Nat) : (a : Int) / 2 ^ s = ((a / 2 ^ s : Nat) : Int) := by rw [Int.natCast_ediv, Int.natCast_pow]; rfl
theorem spell_and (a : Nat) (h : a < 18446744073709551616) : bits BinOp.and IntKind.u64 (a : Int) 4294967295 = ((a % 4294967296 : Nat) : Int) := by
  have := bits_and_u64_nat a 4294967295 h (by omega)
  rw [show (4294967295 : Nat) = 2 ^ 32 - 1 from rfl, Nat.and_two_pow_sub_one_eq_mod] at this
  exact this
theorem spell_or (a b s : Nat) (ha : a * 2 ^ s < 18446744073709551616) (hb : b < 2 ^ s) (hs : 2 ^ s ≤ 18446744073709551616) : bits BinOp.or IntKind.u64 ((a * 2 ^ s : Nat) : Int) (b : Int) = ((a * 2 ^ s + b : Nat) : Int) := by
  rw [bits_or_u64_nat _ _ ha (by omega), or_parts a s b hb]
theorem spell_quo (a b : Nat) (ha : a < 18446744073709551616) : IntKind.u64.wrap ((a : Int).tdiv (b : Int)) = ((a / b : Nat) : Int) := by
  rw [show (a : Int).tdiv (b : Int) = ((a / b : Nat) : Int) from rfl]
  exact w64_nat _ (Nat.lt_of_le_of_lt (Nat.div_le_self _ _) ha)
theorem spell_quo2 (a b : Nat) (ha : a < 18446744073709551616) : IntKind.u64.wrap ((a : Int) / (b : Int)) = ((a / b : Nat) : Int) := by
  rw [show (a : Int) / (b : Int) = ((a / b : Nat) : Int) from rfl]
  exact w64_nat _ (Nat.lt_of_le_of_lt (Nat.div_le_self _ _) ha)
theorem spell_mul (a b : Nat) (h : a * b < 18446744073709551616) : IntKind.u64.wrap ((a : Int) * (b : Int)) = ((a * b : Nat) : Int) := by
  rw [← Int.natCast_mul, w64_nat _ h]
theorem spell_two (r w : Nat) (h : r < 4294967296) (hw : w < 4294967296) : IntKind.u64.wrap (IntKind.u64.wrap (4294967296 * (r : Int)) + (w : Int)) = ((r * 4294967296 + w : Nat) : Int) := by
  rw [show (4294967296 : Int) * (r : Int) = ((r * 4294967296 : Nat) : Int) by omega, w64_nat _ (by omega), ← Int.natCast_add, w64_nat _ (by omega)]
theorem spell_un (u w d y r : Nat) (h : d * y + r = u * 4294967296 + w) (hr : r < 18446744073709551616) :
    IntKind.u64.wrap (IntKind.u64.wrap (IntKind.u64.wrap ((u : Int) * 4294967296) + (w : Int)) - IntKind.u64.wrap ((d : Int) * (y : Int))) = ((r : Nat) : Int) := by
  rw [← Int.natCast_mul]
  generalize d * y = p at h
  simp only [IntKind.wrap_u64]
  omega
theorem spell_rest (a b : Nat) (ha : a < 18446744073709551616) : IntKind.u64.wrap ((a : Int) - IntKind.u64.wrap (((a / b : Nat) : Int) * (b : Int))) = ((a % b : Nat) : Int) := by
  have h1 : a / b * b ≤ a := Nat.div_mul_le_self _ _
  have h2 := Nat.div_add_mod a b
  rw [Nat.mul_comm] at h2
  rw [← Int.natCast_mul, w64_nat _ (by omega), show (a : Int) - ((a / b * b : Nat) : Int) = ((a % b : Nat) : Int) by omega]
  exact w64_nat _ (by omega)
set_option maxRecDepth 100000 in
theorem div64_zero (lo y : Nat) (w : World) (hlo : lo < 18446744073709551616) (hy0 : 0 < y) (hy : y < 18446744073709551616) :
    Calls Try.prog 83 #[.int .u64 0, .int .u64 lo, .int .u64 y] w fun e w' => e = .returned (.tuple #[.int .u64 ((lo / y : Nat) : Int), .int .u64 ((lo % y : Nat) : Int)]) ∧ Below w.heap.size w w' := by
  have h1 : ((y : Int) == 0) = false := by rw [beq_eq_false_iff_ne]; omega
  have h2 : decide ((y : Int) ≤ 0) = false := decide_eq_false (by omega)
  go_enter Try.func83, Try.ntmps83
  go_wp2_with fail
  go_quiet (fail)
  go_wp2_with fail
  go_ret2
  have hd : lo / y ≤ lo := Nat.div_le_self _ _
  refine ⟨?_, below_drewN (Below.refl _ _) _⟩
  rw [show (lo : Int) / (y : Int) = ((lo / y : Nat) : Int) from rfl, w64_nat _ (by omega)]
  rfl
set_option maxHeartbeats 1000000 in
set_option maxRecDepth 100000 in
theorem div64_pos (hi lo y : Nat) (w : World) (hlo : lo < 18446744073709551616) (h0 : 0 < hi) (hhi : hi < y) (hy : y < 18446744073709551616) :
    Calls Try.prog 83 #[.int .u64 hi, .int .u64 lo, .int .u64 y] w fun e w' => e = .returned (.tuple #[.int .u64 (((hi * 18446744073709551616 + lo) / y : Nat) : Int), .int .u64 (((hi * 18446744073709551616 + lo) % y : Nat) : Int)]) ∧ Below w.heap.size w w' := by
  have h1 : ((y : Int) == 0) = false := by rw [beq_eq_false_iff_ne]; omega
  have h2 : decide (y ≤ hi) = false := decide_eq_false (by omega)
  have h3 : ((hi : Int) == 0) = false := by rw [beq_eq_false_iff_ne]; omega
  go_enter Try.func83, Try.ntmps83
  go_wp2_with fail
  refine (Try.bits_LeadingZeros64 y w (by omega) (by omega)).mono ?_
  rintro e w' ⟨rfl, rfl⟩
  rw [Int.toNat_natCast]
  obtain ⟨s, hs⟩ : ∃ s, s = 64 - Lib.bitLen y := ⟨_, rfl⟩
  have hbl : Lib.bitLen y ≤ 64 := Lib.bitLen_le y 64 (by omega) (by omega)
  have HS := hide hs
  rw [show (64 : Int) - (Lib.bitLen y : Int) = (s : Int) by omega]
  have hs64 : s ≤ 64 := by omega
  clear hs hbl
  have hy0 : 0 < y := by omega
  -- normalized
  obtain ⟨hsl, hsg, hs63⟩ : y * 2 ^ s < 18446744073709551616 ∧ 9223372036854775808 ≤ y * 2 ^ s ∧ s < 64 := by
    obtain ⟨a1, a2, a3⟩ := Lib.bitLenAux_bounds 64 y (by omega) (by omega)
    have hs := HS.out
    have hbl : Lib.bitLen y ≤ 64 := Lib.bitLen_le y 64 (by omega) (by omega)
    change 1 ≤ Lib.bitLen y at a1
    change 2 ^ (Lib.bitLen y - 1) ≤ y at a2
    change y < 2 ^ Lib.bitLen y at a3
    generalize Lib.bitLen y = L at *
    have e1 : 2 ^ L * 2 ^ s = 18446744073709551616 := by rw [← Nat.pow_add, show L + s = 64 by omega]
    have e2 : 2 ^ (L - 1) * 2 ^ s = 9223372036854775808 := by rw [← Nat.pow_add, show L - 1 + s = 63 by omega]
    have hp := Nat.two_pow_pos s
    refine ⟨?_, ?_, by omega⟩
    · rw [← e1]; exact Nat.mul_lt_mul_of_pos_right a3 hp
    · rw [← e2]; exact Nat.mul_le_mul_right _ a2
  have hhs : hi * 2 ^ s < 18446744073709551616 := Nat.lt_of_lt_of_le (Nat.mul_lt_mul_of_pos_right hhi (Nat.two_pow_pos s)) (Nat.le_of_lt hsl)
  have hle : 2 ^ s ≤ 18446744073709551616 := by
    have := Nat.pow_le_pow_right (n := 2) (by omega) (show s ≤ 64 by omega)
    exact this
  have hlp : lo / 2 ^ (64 - s) < 2 ^ s := by
    rw [Nat.div_lt_iff_lt_mul (Nat.two_pow_pos _), ← Nat.pow_add, show s + (64 - s) = 64 by omega]
    exact hlo
  have hparts := shift_parts hi lo s hs63 hlo hhs
  have hlt : hi * 2 ^ s + lo / 2 ^ (64 - s) < y * 2 ^ s := by
    have h5 : hi * 2 ^ s + 2 ^ s ≤ y * 2 ^ s := by
      have := Nat.mul_le_mul_right (2 ^ s) (show hi + 1 ≤ y by omega)
      rw [Nat.add_mul, Nat.one_mul] at this
      exact this
    omega
  have E1 : IntKind.u64.wrap ((y : Int) * 2 ^ s) = ((y * 2 ^ s : Nat) : Int) := by rw [spell_shl, w64_nat _ hsl]
  have E2 : bits BinOp.or IntKind.u64 (IntKind.u64.wrap ((hi : Int) * 2 ^ s)) ((lo : Int) / 2 ^ (64 - s)) = ((hi * 2 ^ s + lo / 2 ^ (64 - s) : Nat) : Int) := by
    rw [spell_shl, w64_nat _ hhs, spell_shr, spell_or hi _ s hhs hlp hle]
  have E3 : IntKind.u64.wrap ((lo : Int) * 2 ^ s) = ((lo * 2 ^ s % 18446744073709551616 : Nat) : Int) := by rw [spell_shl, w64_mod]
  have E1 := hide E1
  have E2 := hide E2
  have E3 := hide E3
  have HP := hide hparts
  have HSG := hide hsg
  have HLT := hide hlt
  have HSD := hide (shift_div (hi * 18446744073709551616 + lo) y s)
  clear hsg hhs hle hlp hparts hlt HS
  have e1 := E1.out
  have e2 := E2.out
  have e3 := E3.out
  have hsg := HSG.out
  have hlt := HLT.out
  have hparts := HP.out
  have hsd := HSD.out
  clear E1 E2 E3 HSG HLT HP HSD
  generalize hY : y * 2 ^ s = Y at *
  generalize hU : hi * 2 ^ s + lo / 2 ^ (64 - s) = U at *
  generalize hL : lo * 2 ^ s % 18446744073709551616 = L at *
  have hYl : Y < 18446744073709551616 := by omega
  have hLl : L < 18446744073709551616 := by omega
  have HE1 := hide e1
  have HE2 := hide e2
  have HE3 := hide e3
  have HP := hide hparts
  have HSD := hide hsd
  have HYY := hide hY
  clear e1 e2 e3 hparts hsd hY hU hL
  go_upto_region 15 with (fail)
  clear E1 E2 E3 HE1 HE2 HE3
  have EH : (Y : Int) / 4294967296 = ((Y / 4294967296 : Nat) : Int) := rfl
  have EO := spell_and Y hYl
  have EW : (L : Int) / 4294967296 = ((L / 4294967296 : Nat) : Int) := rfl
  have EV := spell_and L hLl
  rw [EH, EO, EW, EV]
  have hyo : Y = Y / 4294967296 * 4294967296 + Y % 4294967296 := by omega
  have hlw : L = L / 4294967296 * 4294967296 + L % 4294967296 := by omega
  have hh1 : 2147483648 ≤ Y / 4294967296 := by omega
  have hh2 : Y / 4294967296 < 4294967296 := by omega
  have ho : Y % 4294967296 < 4294967296 := by omega
  have hw1 : L / 4294967296 < 4294967296 := by omega
  have hw0 : L % 4294967296 < 4294967296 := by omega
  clear EH EO EW EV
  generalize Y / 4294967296 = h at *
  generalize Y % 4294967296 = o at *
  generalize L / 4294967296 = w1 at *
  generalize L % 4294967296 = w0 at *
  have hU : U < 18446744073709551616 := by omega
  have EQ := spell_quo U h hU
  have ER := spell_rest U h hU
  have HYO := hide hyo
  have HLW := hide hlw
  have hYp : 0 < Y := by omega
  have hhz : ((h : Int) == 0) = false := by rw [beq_eq_false_iff_ne]; omega
  have hhn : ¬ (h : Int) = 0 := by omega
  clear hyo hlw h1 h2 h3
  go_upto_block 0 with (fail)
  clear EQ ER
  have EQ := spell_quo2 U h hU
  have ER := spell_rest U h hU
  rw [EQ, ER]
  clear EQ ER
  go_cut [15] from 19 (fun q wc => q = .int .u64 ((dgt U w1 Y : Nat) : Int) ∧ wc = w')
  case first =>
    have hwB := hw1
    have hUY := hlt
    go_wp2_with fail
    go_loop [15, 16] (fun a b => ∃ q r : Nat, a = .int .u64 q ∧ b = .int .u64 r ∧ Hid (U = q * h + r) ∧ dgt U w1 Y ≤ q ∧ q ≤ 4294967297 ∧ r < 4294967296) (fun a _ => (intOf a).toNat)
    case atStart => exact ⟨U / h, U % h, rfl, rfl, hide (by have := Nat.div_add_mod U h; rw [Nat.mul_comm] at this; exact this.symm), guess_ge hYp HYO.out (by omega) hwB, guess_first (by omega) HYO.out hh1 ho hUY, Nat.lt_trans (Nat.mod_lt _ (by omega)) hh2⟩
    case round =>
      obtain ⟨q, r, rfl, rfl, HQ, hge, hle, hr⟩ := hrel
      have HG := hide (guess_gt (w := w1) hYp HYO.out HQ.out)
      by_cases c : dgt U w1 Y < q
      · have hq1 : IntKind.u64.wrap ((q : Int) - 1) = ((q - 1 : Nat) : Int) := by rw [show (q : Int) - 1 = ((q - 1 : Nat) : Int) by omega, w64_nat _ (by omega)]
        have hr1 : IntKind.u64.wrap ((r : Int) + (h : Int)) = ((r + h : Nat) : Int) := by rw [← Int.natCast_add, w64_nat _ (by omega)]
        have HQ2 := hide (show U = (q - 1) * h + (r + h) by
          have := HQ.out
          obtain ⟨k, rfl⟩ : ∃ k, q = k + 1 := ⟨q - 1, by omega⟩
          rw [Nat.add_mul] at this
          rw [Nat.add_sub_cancel]
          omega)
        have hgt : dgt U w1 Y ≤ q - 1 := by omega
        have hfar : 4294967296 ≤ r + h → q - 1 ≤ dgt U w1 Y := fun h5 => guess_far hYp HYO.out ho HQ2.out h5 (by omega)
        have HFAR := hide hfar
        have HC : Hid (w1 + r * 4294967296 < q * o) := hide (by have := HG.out.2 c; omega)
        have hqp : 1 ≤ q := by omega
        clear hfar c hge HQ HG
        generalize hd : dgt U w1 Y = d at *
        clear hd
        by_cases c3 : 4294967296 ≤ r + h
        · have t3 : decide ((4294967296 : Int) ≤ (r : Int) + (h : Int)) = true := decide_eq_true (by omega)
          have t3' : decide (4294967296 ≤ r + h) = true := decide_eq_true c3
          have hdq := HFAR.out c3
          have hfin : d = q - 1 := by omega
          clear c3 hdq HFAR
          by_cases c2 : 4294967296 ≤ q
          · have t2 : decide ((4294967296 : Int) ≤ (q : Int)) = true := decide_eq_true (by omega)
            have HF := hide hfin
            clear hfin c2
            go_wp2_with fail
            go_meet
            case rel => exact ⟨by rw [HF.out], rfl⟩
          · have t2 : decide ((4294967296 : Int) ≤ (q : Int)) = false := decide_eq_false (by omega)
            have hm := spell_mul q o (Nat.lt_of_le_of_lt (Nat.mul_le_mul (show q ≤ 4294967295 by omega) (show o ≤ 4294967295 by omega)) (by omega))
            have ht := spell_two r w1 hr hwB
            have hcc := HC.out
            generalize q * o = p at hm hcc
            have t4 : decide ((r : Int) * 4294967296 + (w1 : Int) < (p : Int)) = true := decide_eq_true (by omega)
            have t4' : decide (r * 4294967296 + w1 < p) = true := decide_eq_true (by omega)
            have t5 : decide (4294967296 * (r : Int) + (w1 : Int) < (p : Int)) = true := decide_eq_true (by omega)
            have HF := hide hfin
            clear hfin c2 hcc
            go_wp2_with fail
            go_meet
            case rel => exact ⟨by rw [HF.out], rfl⟩
        · have t3 : decide ((4294967296 : Int) ≤ (r : Int) + (h : Int)) = false := decide_eq_false (by omega)
          have t3' : decide (4294967296 ≤ r + h) = false := decide_eq_false c3
          by_cases c2 : 4294967296 ≤ q
          · have t2 : decide ((4294967296 : Int) ≤ (q : Int)) = true := decide_eq_true (by omega)
            go_wp2_with fail
            go_round
            case rel => exact ⟨q - 1, r + h, by first | rfl | exact congrArg _ hq1, by first | rfl | exact congrArg _ hr1, HQ2, hgt, by omega, by omega⟩
            case measure => simp [intOf]; omega
          · have t2 : decide ((4294967296 : Int) ≤ (q : Int)) = false := decide_eq_false (by omega)
            have hm := spell_mul q o (Nat.lt_of_le_of_lt (Nat.mul_le_mul (show q ≤ 4294967295 by omega) (show o ≤ 4294967295 by omega)) (by omega))
            have ht := spell_two r w1 hr hwB
            have hcc := HC.out
            generalize q * o = p at hm hcc
            have t4 : decide ((r : Int) * 4294967296 + (w1 : Int) < (p : Int)) = true := decide_eq_true (by omega)
            have t4' : decide (r * 4294967296 + w1 < p) = true := decide_eq_true (by omega)
            have t5 : decide (4294967296 * (r : Int) + (w1 : Int) < (p : Int)) = true := decide_eq_true (by omega)
            clear hcc
            go_wp2_with fail
            go_round
            case rel => exact ⟨q - 1, r + h, by first | rfl | exact congrArg _ hq1, by first | rfl | exact congrArg _ hr1, HQ2, hgt, by omega, by omega⟩
            case measure => simp [intOf]; omega
      · have hqd : dgt U w1 Y = q := by omega
        have hqB : q < 4294967296 := by rw [← hqd]; exact dgt_lt hYp hUY hwB
        have t2 : decide ((4294967296 : Int) ≤ (q : Int)) = false := decide_eq_false (by omega)
        have hm := spell_mul q o (Nat.lt_of_le_of_lt (Nat.mul_le_mul (show q ≤ 4294967295 by omega) (show o ≤ 4294967295 by omega)) (by omega))
        have ht := spell_two r w1 hr hwB
        have hcc : ¬ (r * 4294967296 + w1 < q * o) := fun h5 => c (HG.out.1 h5)
        generalize q * o = p at hm hcc
        have t4 : decide ((r : Int) * 4294967296 + (w1 : Int) < (p : Int)) = false := decide_eq_false (by omega)
        have t4' : decide (r * 4294967296 + w1 < p) = false := decide_eq_false (by omega)
        have t5 : decide (4294967296 * (r : Int) + (w1 : Int) < (p : Int)) = false := decide_eq_false (by omega)
        have HF := hide hqd
        clear hqd hcc c hge HG HQ
        go_wp2_with fail
        go_meet
        case rel => exact ⟨by rw [HF.out], rfl⟩
  case rest =>
    obtain ⟨rfl, rfl⟩ := hcut
    have HV := hide (dgt_mul U w1 Y)
    have hVY := dgr_lt (u := U) (w := w1) hYp
    generalize hq1v : dgt U w1 Y = q1 at *
    generalize hVv : dgr U w1 Y = V at *
    have HQV := hide hq1v
    have HVV := hide hVv
    have EU := spell_un U w1 q1 Y V HV.out (by omega)
    clear hq1v hVv
    have hVl : V < 18446744073709551616 := by omega
    have EUH := hide EU
    clear EU
    go_upto_region 22 with (fail)
    rw [EUH.out]
    have EQ := spell_quo2 V h hVl
    have ER := spell_rest V h hVl
    go_upto_block 2 with (fail)
    clear EQ ER
    go_cut [18] from 19 (fun q w2 => q = .int .u64 ((dgt V w0 Y : Nat) : Int) ∧ w2 = wc)
    case first =>
      have hwB := hw0
      have hUY := hVY
      go_wp2_with fail
      go_loop [18, 16] (fun a b => ∃ q r : Nat, a = .int .u64 q ∧ b = .int .u64 r ∧ Hid (V = q * h + r) ∧ dgt V w0 Y ≤ q ∧ q ≤ 4294967297 ∧ r < 4294967296) (fun a _ => (intOf a).toNat)
      case atStart => exact ⟨V / h, V % h, by first | rfl | exact congrArg (Value.int .u64) (spell_quo2 V h hVl), by first | rfl | exact congrArg (Value.int .u64) (spell_rest V h hVl), hide (by have := Nat.div_add_mod V h; rw [Nat.mul_comm] at this; exact this.symm), guess_ge hYp HYO.out (by omega) hwB, guess_first (by omega) HYO.out hh1 ho hUY, Nat.lt_trans (Nat.mod_lt _ (by omega)) hh2⟩
      case round =>
        obtain ⟨q, r, rfl, rfl, HQ, hge, hle, hr⟩ := hrel
        have HG := hide (guess_gt (w := w0) hYp HYO.out HQ.out)
        by_cases c : dgt V w0 Y < q
        · have hq1 : IntKind.u64.wrap ((q : Int) - 1) = ((q - 1 : Nat) : Int) := by rw [show (q : Int) - 1 = ((q - 1 : Nat) : Int) by omega, w64_nat _ (by omega)]
          have hr1 : IntKind.u64.wrap ((r : Int) + (h : Int)) = ((r + h : Nat) : Int) := by rw [← Int.natCast_add, w64_nat _ (by omega)]
          have HQ2 := hide (show V = (q - 1) * h + (r + h) by
            have := HQ.out
            obtain ⟨k, rfl⟩ : ∃ k, q = k + 1 := ⟨q - 1, by omega⟩
            rw [Nat.add_mul] at this
            rw [Nat.add_sub_cancel]
            omega)
          have hgt : dgt V w0 Y ≤ q - 1 := by omega
          have hfar : 4294967296 ≤ r + h → q - 1 ≤ dgt V w0 Y := fun h5 => guess_far hYp HYO.out ho HQ2.out h5 (by omega)
          have HFAR := hide hfar
          have HC : Hid (w0 + r * 4294967296 < q * o) := hide (by have := HG.out.2 c; omega)
          have hqp : 1 ≤ q := by omega
          clear hfar c hge HQ HG
          generalize hd : dgt V w0 Y = d at *
          clear hd
          by_cases c3 : 4294967296 ≤ r + h
          · have t3 : decide ((4294967296 : Int) ≤ (r : Int) + (h : Int)) = true := decide_eq_true (by omega)
            have t3' : decide (4294967296 ≤ r + h) = true := decide_eq_true c3
            have hdq := HFAR.out c3
            have hfin : d = q - 1 := by omega
            clear c3 hdq HFAR
            by_cases c2 : 4294967296 ≤ q
            · have t2 : decide ((4294967296 : Int) ≤ (q : Int)) = true := decide_eq_true (by omega)
              have HF := hide hfin
              clear hfin c2
              go_wp2_with fail
              go_meet
              case rel => exact ⟨by rw [HF.out], rfl⟩
            · have t2 : decide ((4294967296 : Int) ≤ (q : Int)) = false := decide_eq_false (by omega)
              have hm := spell_mul q o (Nat.lt_of_le_of_lt (Nat.mul_le_mul (show q ≤ 4294967295 by omega) (show o ≤ 4294967295 by omega)) (by omega))
              have ht := spell_two r w0 hr hwB
              have hcc := HC.out
              generalize q * o = p at hm hcc
              have t4 : decide ((r : Int) * 4294967296 + (w0 : Int) < (p : Int)) = true := decide_eq_true (by omega)
              have t4' : decide (r * 4294967296 + w0 < p) = true := decide_eq_true (by omega)
              have t5 : decide (4294967296 * (r : Int) + (w0 : Int) < (p : Int)) = true := decide_eq_true (by omega)
              have HF := hide hfin
              clear hfin c2 hcc
              go_wp2_with fail
              go_meet
              case rel => exact ⟨by rw [HF.out], rfl⟩
          · have t3 : decide ((4294967296 : Int) ≤ (r : Int) + (h : Int)) = false := decide_eq_false (by omega)
            have t3' : decide (4294967296 ≤ r + h) = false := decide_eq_false c3
            by_cases c2 : 4294967296 ≤ q
            · have t2 : decide ((4294967296 : Int) ≤ (q : Int)) = true := decide_eq_true (by omega)
              go_wp2_with fail
              go_round
              case rel => exact ⟨q - 1, r + h, by first | rfl | exact congrArg _ hq1, by first | rfl | exact congrArg _ hr1, HQ2, hgt, by omega, by omega⟩
              case measure => simp [intOf]; omega
            · have t2 : decide ((4294967296 : Int) ≤ (q : Int)) = false := decide_eq_false (by omega)
              have hm := spell_mul q o (Nat.lt_of_le_of_lt (Nat.mul_le_mul (show q ≤ 4294967295 by omega) (show o ≤ 4294967295 by omega)) (by omega))
              have ht := spell_two r w0 hr hwB
              have hcc := HC.out
              generalize q * o = p at hm hcc
              have t4 : decide ((r : Int) * 4294967296 + (w0 : Int) < (p : Int)) = true := decide_eq_true (by omega)
              have t4' : decide (r * 4294967296 + w0 < p) = true := decide_eq_true (by omega)
              have t5 : decide (4294967296 * (r : Int) + (w0 : Int) < (p : Int)) = true := decide_eq_true (by omega)
              clear hcc
              go_wp2_with fail
              go_round
              case rel => exact ⟨q - 1, r + h, by first | rfl | exact congrArg _ hq1, by first | rfl | exact congrArg _ hr1, HQ2, hgt, by omega, by omega⟩
              case measure => simp [intOf]; omega
        · have hqd : dgt V w0 Y = q := by omega
          have hqB : q < 4294967296 := by rw [← hqd]; exact dgt_lt hYp hUY hwB
          have t2 : decide ((4294967296 : Int) ≤ (q : Int)) = false := decide_eq_false (by omega)
          have hm := spell_mul q o (Nat.lt_of_le_of_lt (Nat.mul_le_mul (show q ≤ 4294967295 by omega) (show o ≤ 4294967295 by omega)) (by omega))
          have ht := spell_two r w0 hr hwB
          have hcc : ¬ (r * 4294967296 + w0 < q * o) := fun h5 => c (HG.out.1 h5)
          generalize q * o = p at hm hcc
          have t4 : decide ((r : Int) * 4294967296 + (w0 : Int) < (p : Int)) = false := decide_eq_false (by omega)
          have t4' : decide (r * 4294967296 + w0 < p) = false := decide_eq_false (by omega)
          have t5 : decide (4294967296 * (r : Int) + (w0 : Int) < (p : Int)) = false := decide_eq_false (by omega)
          have HF := hide hqd
          clear hqd hcc c hge HG HQ
          go_wp2_with fail
          go_meet
          case rel => exact ⟨by rw [HF.out], rfl⟩
    case rest =>
      obtain ⟨rfl, rfl⟩ := hcut
      have HV2 := hide (dgt_mul V w0 Y)
      have hRY := dgr_lt (u := V) (w := w0) hYp
      have HTD := hide (two_digits hYp U w1 w0 ((hi * 18446744073709551616 + lo) * 2 ^ s) (by rw [HP.out, HLW.out]; omega))
      have hd0 := dgt_lt (u := V) (w := w0) hYp hVY hw0
      have hd1 := dgt_lt (u := U) (w := w1) hYp hlt hw1
      rw [HQV.out, HVV.out] at HTD
      rw [HQV.out] at hd1
      generalize hq0v : dgt V w0 Y = q0 at *
      generalize hRv : dgr V w0 Y = R at *
      clear hq0v hRv
      have EU := spell_un V w0 q0 Y R HV2.out (by omega)
      have EUH := hide EU
      clear EU
      go_wp2_with fail
      go_ret2
      refine ⟨?_, Below.refl _ _⟩
      rw [EUH.out, spell_shr]
      obtain ⟨e1, e2⟩ := HTD.out
      obtain ⟨e3, e4⟩ := HSD.out
      rw [e3] at e1
      rw [e4] at e2
      rw [e1, ← e2, Nat.mul_div_cancel _ (Nat.two_pow_pos s)]
      rw [show (q1 : Int) * 4294967296 + (q0 : Int) = ((q1 * 4294967296 + q0 : Nat) : Int) by omega]
      rfl
theorem div64_any (hi lo y : Nat) (w : World) (hlo : lo < 18446744073709551616) (hhi : hi < y) (hy : y < 18446744073709551616) :
    Calls Try.prog 83 #[.int .u64 hi, .int .u64 lo, .int .u64 y] w fun e w' => e = .returned (.tuple #[.int .u64 (((hi * 18446744073709551616 + lo) / y : Nat) : Int), .int .u64 (((hi * 18446744073709551616 + lo) % y : Nat) : Int)]) ∧ Below w.heap.size w w' := by
  rcases Nat.eq_zero_or_pos hi with h | h
  · subst h
    rw [Nat.zero_mul, Nat.zero_add]
    exact div64_zero lo y w hlo hhi hy
  · exact div64_pos hi lo y w hlo h hhi hy
end Go.Proofs.Ytgidaifoiljgoaa
