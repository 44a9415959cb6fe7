/- crc.Sum returns the checksum of the parts, one behind the other. -/
import Derived.Test.YtlliffbhkagodaaProg
import Derived.Test.YtlliffbhkagodaaBase
import Derived.Test.YtlliffbhkagodaaCrcPlain
namespace Go.Proofs.Ytlliffbhkagodaa
open Go.RowKit
set_option linter.unusedVariables false

/-- A list of parts that is read: each cell a slice of bytes. -/
def RdP (w : World) (B : Nat) (A : Option Addr) (n : Nat) (ls : List (List UInt8)) : Prop :=
  ls.length = n ∧ ∃ vs, Rd w B 1 A n vs ∧ ∀ i (h : i < ls.length), ∃ Ai ci, vs[i]? = some (.slice Ai ls[i].length ci) ∧ ls[i].length ≤ ci ∧ ls[i].length ≤ 140737488351232 ∧ RdB w B Ai ls[i].length ls[i]
theorem RdP.cell {w : World} {B n : Nat} {A : Option Addr} {ls : List (List UInt8)} (h : RdP w B A n ls) {k : Nat} (hk : k < n) :
    ∃ b off Ai ci l, A = some ⟨b, off, none⟩ ∧ b < B ∧ ls[k]? = some l ∧ w.cell? ⟨b, off + k, none⟩ = some (.slice Ai l.length ci) ∧ l.length ≤ ci ∧ l.length ≤ 140737488351232 ∧ RdB w B Ai l.length l := by
  obtain ⟨hl, vs, hr, hp⟩ := h
  obtain ⟨b, off, e, hb, hc⟩ := hr.at_ hk
  obtain ⟨Ai, ci, h1, h2, h3, h4⟩ := hp k (by omega)
  have hk' : k < vs.length := by have := hr.1; omega
  refine ⟨b, off, Ai, ci, ls[k], e, hb, List.getElem?_eq_getElem (by omega), ?_, h2, h3, h4⟩
  rw [hc k hk']
  rw [List.getElem?_eq_getElem hk'] at h1
  exact h1
theorem RdP.next {w w' : World} {n : Nat} {A : Option Addr} {ls : List (List UInt8)} (h : RdP w w.heap.size A n ls) (hb : Below w.heap.size w w') : RdP w' w'.heap.size A n ls := by
  obtain ⟨hl, vs, hr, hp⟩ := h
  refine ⟨hl, vs, hr.next hb, fun i hi => ?_⟩
  obtain ⟨Ai, ci, h1, h2, h3, h4⟩ := hp i hi
  exact ⟨Ai, ci, h1, h2, h3, Rd.next h4 hb⟩

/-- A round of the bits' loop leaves the register behind so many bits. -/
theorem crcSum_any (A : Option Addr) (n c : Nat) (ls : List (List UInt8)) (w : World) (hp : RdP w w.heap.size A n ls) (hn : n ≤ maxLen) :
    Calls Try.prog 12 #[.slice A n c] w fun e w' => e = .returned (.int .u32 (sumN ls.flatten : Nat)) ∧ w = w' := by
  unfold maxLen at hn
  go_enter Try.func12, Try.ntmps12
  go_wp2
  go_loop [3, 5, 7, 8, 11] (fun s3 _ _ _ i => ∃ k : Nat, k ≤ n ∧ i = .int .i64 k ∧ s3 = .int .u32 (regN 4294967295 (ls.take k).flatten : Nat)) (fun _ _ _ _ i => n - (intOf i).toNat)
  case atStart => exact ⟨0, Nat.zero_le _, rfl, rfl⟩
  case round =>
    obtain ⟨k, hk, rfl, rfl⟩ := hrel
    have hlt := regN_lt (ls.take k).flatten (r := 4294967295) (by omega)
    generalize hR : regN 4294967295 (ls.take k).flatten = R at hlt ⊢
    have HR := hide hR
    clear hR
    by_cases hk1 : k < n
    · obtain ⟨b, off, Ai, ci, l, rfl, hb, hl, hc, h1, h2, h4⟩ := hp.cell hk1
      have HL := hide hl
      clear hl
      go_wp2
      go_loop [3, 7, 8, 17] (fun s3 _ _ i => ∃ j : Nat, j ≤ l.length ∧ i = .int .i64 j ∧ s3 = .int .u32 (regN R (l.take j) : Nat)) (fun _ _ _ i => l.length - (intOf i).toNat)
      case atStart => exact ⟨0, Nat.zero_le _, rfl, rfl⟩
      case round =>
        obtain ⟨j, hj, rfl, rfl⟩ := hrel
        have hlt2 := regN_lt (l.take j) hlt
        generalize hS : regN R (l.take j) = S at hlt2 ⊢
        have HS := hide hS
        clear hS
        by_cases hj1 : j < l.length
        · obtain ⟨b', off', rfl, hb', hc'⟩ := RdB.cell h4 hj1
          have hx := (l[j]).toNat_lt
          have hsp := spell_byte S l[j] hlt2
          have hlt3 := xor_byte_lt hlt2 l[j]
          go_wp2
          go_loop [3, 8, 25] (fun s3 _ i => ∃ q : Nat, q ≤ 8 ∧ i = .int .i64 q ∧ s3 = .int .u32 (bitsN q (S ^^^ (l[j]).toNat) : Nat)) (fun _ _ i => 8 - (intOf i).toNat)
          case atStart => exact ⟨0, Nat.zero_le _, rfl, rfl⟩
          case round =>
            obtain ⟨q, hq, rfl, rfl⟩ := hrel
            have hlt4 := bitsN_lt hlt3 q
            clear hsp
            generalize hT : bitsN q (S ^^^ (l[j]).toNat) = T at hlt4 ⊢
            have HT := hide hT
            clear hT
            by_cases hq1 : q < 8
            · go_wp2
              go_round
              case rel => exact ⟨q + 1, by omega, by go_num, by rw [spell_bit T hlt4, show bitsN (q + 1) (S ^^^ l[j].toNat) = bitN T from by rw [← HT.out]; rfl]⟩
              case measure => simp [intOf]; omega
            · go_wp2
              go_round
              case rel =>
                refine ⟨j + 1, by omega, by go_num, ?_⟩
                obtain rfl : q = 8 := by omega
                rw [List.take_succ_eq_append_getElem hj1, regN_snoc, HS.out, ← HT.out]
                rfl
              case measure => simp [intOf]; omega
        · go_wp2
          go_round
          case rel =>
            refine ⟨k + 1, by omega, by go_num, ?_⟩
            have e : (ls.take (k + 1)).flatten = (ls.take k).flatten ++ l := by
              rw [List.take_add_one, HL.out]; simp
            rw [e, regN_append, HR.out, ← HS.out, List.take_of_length_le (by omega)]
          case measure => simp [intOf]; omega
    · go_wp2
      go_ret
      have hl := hp.1
      have HF : regN 4294967295 ls.flatten = R := by rw [← HR.out, List.take_of_length_le (by omega)]
      refine ⟨ret_int ?_, rfl⟩
      unfold sumN
      rw [HF]
      exact spell_full R hlt
end Go.Proofs.Ytlliffbhkagodaa
