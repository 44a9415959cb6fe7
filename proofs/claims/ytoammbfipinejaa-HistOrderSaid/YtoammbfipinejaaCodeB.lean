/- code.first, code.count. -/
import Derived.Test.YtoammbfipinejaaCodeA
namespace Go.Proofs.Ytoammbfipinejaa
open Go.RowKit
set_option linter.unusedVariables false
set_option linter.unusedSimpArgs false

theorem u64_wrap (n : Int) : IntKind.u64.wrap n = n % 18446744073709551616 := by simp [IntKind.wrap, IntKind.bits, IntKind.signed]
theorem pow7 (k : Nat) : (2 : Nat) ^ (7 * k) = 128 ^ k := by rw [Nat.pow_mul]
theorem spell_gather (a m k : Nat) (ha : a < 128 ^ k) (hk : k ≤ 9) (hm : m < 128) (h9 : k = 9 → m ≤ 1) :
    bits BinOp.or IntKind.u64 (a : Int) (IntKind.u64.wrap ((m : Int) * 2 ^ (7 * k))) = ((a + m * 128 ^ k : Nat) : Int) ∧ a + m * 128 ^ k < 18446744073709551616 := by
  have hp : (2 : Nat) ^ (7 * k) = 128 ^ k := pow7 k
  have hle : (128 : Nat) ^ k ≤ 128 ^ 9 := Nat.pow_le_pow_right (by omega) hk
  have h9' : (128 : Nat) ^ 9 = 9223372036854775808 := rfl
  have hb : a + m * 128 ^ k < 18446744073709551616 ∧ m * 128 ^ k < 18446744073709551616 := by
    rcases Nat.eq_or_lt_of_le hk with h | h
    · subst h
      have h3 : m * 128 ^ 9 ≤ 1 * 128 ^ 9 := Nat.mul_le_mul_right _ (h9 rfl)
      omega
    · have h8 : (128 : Nat) ^ k ≤ 128 ^ 8 := Nat.pow_le_pow_right (by omega) (by omega)
      have h8' : (128 : Nat) ^ 8 = 72057594037927936 := rfl
      have h3 : m * 128 ^ k ≤ 127 * 128 ^ 8 := Nat.mul_le_mul (by omega) h8
      omega
  refine ⟨?_, hb.1⟩
  have e : (m : Int) * 2 ^ (7 * k) = ((m * 128 ^ k : Nat) : Int) := by rw [← hp]; simp
  rw [e, u64_wrap, show ((m * 128 ^ k : Nat) : Int) % 18446744073709551616 = ((m * 128 ^ k : Nat) : Int) from by omega]
  rw [u64_or_nat _ _ (by omega) (by omega)]
  congr 1
  have := Nat.two_pow_add_eq_or_of_lt (b := a) (i := 7 * k) (by rw [hp]; exact ha) m
  rw [hp] at this
  rw [Nat.or_comm, Nat.mul_comm m, ← this, Nat.add_comm]

set_option maxHeartbeats 400000 in
set_option maxRecDepth 100000 in
theorem first_any (A : Option Addr) (n c : Nat) (l : List UInt8) (w : World) (hr : RdB w w.heap.size A n l) (hn : n ≤ 140737488351232) :
    Calls Try.prog 71 #[.slice A n c] w fun e w' => e = .returned (.tuple #[.int .u64 (dec l).1, .int .i64 (dec l).2.1, .int .i64 (dec l).2.2]) ∧ w = w' := by
  have hlen := RdB.len hr
  have HLEN := hide hlen
  clear hlen
  go_enter Try.func71, Try.ntmps71
  go_wp2
  go_loop [2, 3, 4, 5, 6, 7, 10] (fun s2 s3 s4 acc _ _ i => ∃ k a : Nat, k ≤ n ∧ k ≤ 9 ∧ i = .int .i64 k ∧ acc = .int .u64 a ∧ s2 = .int .u64 0 ∧ s3 = .int .i64 0 ∧ s4 = .int .i64 0 ∧ Hid (decF k a (l.drop k) = dec l) ∧ Hid (a < 128 ^ k)) (fun _ _ _ _ _ _ i => n - (intOf i).toNat)
  case atStart => exact ⟨0, 0, by omega, by omega, rfl, rfl, rfl, rfl, rfl, hide rfl, hide (by simp)⟩
  case round =>
    obtain ⟨k, a, hk, hk10, rfl, rfl, rfl, rfl, rfl, HD, HA⟩ := hrel
    by_cases hk1 : k < n
    · obtain ⟨b, off, rfl, hb, hc⟩ := RdB.cell hr hk1
      have hkl : k < l.length := by rw [HLEN.out]; exact hk1
      have hd := HD.out
      rw [List.drop_eq_getElem_cons hkl] at hd
      have HL := hide hkl
      clear HD
      generalize l[k] = x at hc hd
      have hx := x.toNat_lt
      simp only [decF] at hd
      have HD := hide hd
      clear hd hkl
      by_cases h0 : x.toNat = 0
      · have e0 : ((x.toNat : Int) == 0) = true := by rw [h0]; rfl
        by_cases hkk : 0 < k
        · have HR := HD.out
          rw [if_pos (.inl ⟨h0, hkk⟩)] at HR
          have HX := hide HR
          have h1k := hide h0
          clear h0 HR HD
          go_wp2
          go_ret3
          rw [← HX.out]
          exact ⟨rfl, rfl⟩
        · have HR := HD.out
          rw [if_neg (by omega), if_pos (by omega)] at HR
          have HX := hide HR
          have hlt : x.toNat < 128 := by omega
          have hg := (spell_gather a x.toNat k HA.out (by omega) hlt (by omega)).1
          have hx1 : x.toNat ≤ 1 := by omega
          have HG := hide hg
          clear h0 HR HD hg
          go_wp2
          go_ret3
          rw [← HX.out]
          exact ⟨by rw [← HG.out, show ((x.toNat : Int) % 128) = (x.toNat : Int) from by omega]; simp, rfl⟩
      · have e0 : ((x.toNat : Int) == 0) = false := by simp; omega
        have E0 := hide h0
        clear h0
        by_cases h128 : x.toNat < 128
        · by_cases h91 : k = 9 ∧ 1 < x.toNat
          · obtain ⟨h9, h1⟩ := h91
            have e9 : ((k : Int) == 9) = true := by rw [h9]; rfl
            have HR := HD.out
            rw [if_pos (.inr ⟨h1, h9⟩)] at HR
            have HX := hide HR
            clear h9 HR HD
            go_wp2
            go_ret3
            rw [← HX.out]
            exact ⟨rfl, rfl⟩
          · have HR := HD.out
            rw [if_neg (by have := E0.out; omega), if_pos h128] at HR
            have HX := hide HR
            have hg := (spell_gather a x.toNat k HA.out (by omega) h128 (by omega)).1
            have HG := hide hg
            clear HR HD hg
            by_cases h9 : k = 9
            · have e9 : ((k : Int) == 9) = true := by rw [h9]; rfl
              have h1 : x.toNat ≤ 1 := by omega
              clear h9 h91
              go_wp2
              go_ret3
              rw [← HX.out]
              exact ⟨by rw [← HG.out, show ((x.toNat : Int) % 128) = (x.toNat : Int) from by omega]; simp, rfl⟩
            · have e9 : ((k : Int) == 9) = false := by simp; omega
              clear h91
              by_cases h1 : 1 < x.toNat
              all_goals
                go_wp2
                go_ret3
                rw [← HX.out]
                exact ⟨by rw [← HG.out, show ((x.toNat : Int) % 128) = (x.toNat : Int) from by omega]; simp, rfl⟩
        · by_cases h9 : k = 9
          · have e9 : ((k : Int) == 9) = true := by rw [h9]; rfl
            have HR := HD.out
            rw [if_pos (.inr ⟨by omega, h9⟩)] at HR
            have HX := hide HR
            have h1 : 1 < x.toNat := by omega
            clear h9 HR HD
            go_wp2
            go_ret3
            rw [← HX.out]
            exact ⟨rfl, rfl⟩
          · have e9 : ((k : Int) == 9) = false := by simp; omega
            have HR := HD.out
            rw [if_neg (by have := E0.out; omega), if_neg h128] at HR
            have HX := hide HR
            have h1 : 1 < x.toNat := by omega
            obtain ⟨hg, hg2⟩ := spell_gather a (x.toNat % 128) k HA.out (by omega) (by omega) (by omega)
            have HG := hide hg
            clear HR HD hg hg2
            go_wp2
            go_round
            case rel =>
              refine ⟨k + 1, a + x.toNat % 128 * 128 ^ k, by omega, by omega, by go_num, ?_, rfl, rfl, rfl, HX, hide ?_⟩
              · rw [← HG.out]; simp
              · have := HA.out
                rw [Nat.pow_succ]
                have h3 : x.toNat % 128 * 128 ^ k ≤ 127 * 128 ^ k := Nat.mul_le_mul_right _ (by omega)
                omega
            case measure => simp [intOf]; omega
    · go_wp2
      go_ret3
      have h := HD.out
      rw [List.drop_of_length_le (by have := HLEN.out; omega)] at h
      rw [← h]
      exact ⟨rfl, rfl⟩
end Go.Proofs.Ytoammbfipinejaa
