/- The small helpers of the checksum's statements: great, join, CopyBytes, SameBytes, and the document's Sum. -/
import Derived.Test.YtlliffbhkagodaaCrcSum
import Derived.BigQuiet
import Derived.Deep.QuietTactic
namespace Go.Proofs.Ytlliffbhkagodaa
open Go.RowKit
set_option linter.unusedVariables false

theorem Try.info8 : (Try.prog.info? 5).map (fun i => (i.zero, i.size, i.bytes)) = some (some (.int .u8 0), 1, 1) := by kernel_rfl

/-! ### great -/
def greatB (ls : List (List UInt8)) : Bool := decide (100 < ls.length ∨ 3000 < ls.flatten.length)
theorem great_true {ls : List (List UInt8)} (h : 100 < ls.length ∨ 3000 < ls.flatten.length) : true = greatB ls := (decide_eq_true h).symm
theorem great_false {ls : List (List UInt8)} (h : ls.length ≤ 100) (h2 : ls.flatten.length ≤ 3000) : false = greatB ls := (decide_eq_false (by omega)).symm
theorem flat_take_le (ls : List (List UInt8)) (k : Nat) : (ls.take k).flatten.length ≤ ls.flatten.length := by
  have h : ls.flatten = (ls.take k).flatten ++ (ls.drop k).flatten := by rw [← List.flatten_append, List.take_append_drop]
  rw [h, List.length_append]
  omega
theorem flat_snoc (ls : List (List UInt8)) (k : Nat) (l : List UInt8) (hl : ls[k]? = some l) : (ls.take (k + 1)).flatten = (ls.take k).flatten ++ l := by
  rw [List.take_add_one, hl]; simp
theorem great_any (A : Option Addr) (n c : Nat) (ls : List (List UInt8)) (w : World) (hp : RdP w w.heap.size A n ls) (hn : n ≤ 140737488351232) :
    Calls Try.prog 7 #[.slice A n c] w fun e w' => e = .returned (.bool (greatB ls)) ∧ w = w' := by
  have hlen := hp.1
  by_cases h0 : 100 < n
  · go_enter Try.func7, Try.ntmps7
    go_wp2
    go_ret
    exact ⟨ret_bool (great_true (.inl (by omega))), rfl⟩
  · go_enter Try.func7, Try.ntmps7
    go_wp2
    go_loop [2, 3, 4] (fun _ s i => ∃ k : Nat, k ≤ n ∧ i = .int .i64 k ∧ s = .int .i64 ((ls.take k).flatten.length : Nat) ∧ (ls.take k).flatten.length ≤ 3000) (fun _ _ i => n - (intOf i).toNat)
    case atStart => exact ⟨0, Nat.zero_le _, rfl, rfl, by simp⟩
    case round =>
      obtain ⟨k, hk, rfl, rfl, hs⟩ := hrel
      have hle := flat_take_le ls (k + 1)
      by_cases hk1 : k < n
      · obtain ⟨b, off, Ai, ci, l, rfl, hb, hl, hc, h1, h2, h4⟩ := hp.cell hk1
        have hsn := congrArg List.length (flat_snoc ls k l hl)
        rw [List.length_append] at hsn
        generalize (ls.take k).flatten.length = s at hs hsn ⊢
        have HS := hide hsn
        clear hsn hl
        by_cases hbig : 3000 < s + l.length
        · go_wp2
          go_ret
          exact ⟨ret_bool (great_true (.inr (by have := HS.out; omega))), rfl⟩
        · go_wp2
          go_round
          case rel => exact ⟨k + 1, by omega, by go_num, by rw [HS.out]; go_num, by have := HS.out; omega⟩
          case measure => simp [intOf]; omega
      · go_wp2
        go_ret
        refine ⟨ret_bool ?_, rfl⟩
        have : ls.take k = ls := List.take_of_length_le (by omega)
        rw [this] at hs
        exact great_false (by omega) (by omega)

/-! ### the document's sum -/
theorem spell_bit0 (r : Nat) (h : r < 4294967296) (h0 : r % 2 = 0) : ((r : Int) / 2) = ((bitN r : Nat) : Int) := by
  unfold bitN; rw [if_neg (by omega)]; simp
theorem spell_bit1 (r : Nat) (h : r < 4294967296) (h0 : r % 2 = 1) : bits BinOp.xor IntKind.u32 ((r : Int) / 2) 3988292384 = ((bitN r : Nat) : Int) := by
  have := u32_xor_nat (r / 2) 3988292384 (by omega) (by omega)
  unfold bitN; rw [if_pos h0]; simpa using this
theorem refSum_any (A : Option Addr) (n c : Nat) (l : List UInt8) (w : World) (hr : RdB w w.heap.size A n l) (hn : n ≤ 140737488351232) :
    Calls Try.prog 13 #[.slice A n c] w fun e w' => e = .returned (.int .u32 (sumN l : Nat)) ∧ w = w' := by
  have hlen := RdB.len hr
  go_enter Try.func13, Try.ntmps13
  go_wp2
  go_loop [3, 4, 5, 6] (fun s3 i _ _ => ∃ j : Nat, j ≤ n ∧ i = .int .i64 j ∧ s3 = .int .u32 (regN 4294967295 (l.take j) : Nat)) (fun _ i _ _ => n - (intOf i).toNat)
  case atStart => exact ⟨0, Nat.zero_le _, rfl, rfl⟩
  case round =>
    obtain ⟨j, hj, rfl, rfl⟩ := hrel
    have hlt2 := regN_lt (l.take j) (r := 4294967295) (by omega)
    generalize hS : regN 4294967295 (l.take j) = S at hlt2 ⊢
    have HS := hide hS
    clear hS
    by_cases hj1 : j < n
    · obtain ⟨b', off', rfl, hb', hc'⟩ := RdB.cell hr hj1
      have hj2 : j < l.length := by omega
      have hx := (l[j]).toNat_lt
      have hsp := spell_byte S l[j] hlt2
      have hlt3 := xor_byte_lt hlt2 l[j]
      go_wp2
      go_loop [3, 5, 6] (fun s3 i _ => ∃ q : Nat, q ≤ 8 ∧ i = .int .i64 q ∧ s3 = .int .u32 (bitsN q (S ^^^ (l[j]).toNat) : Nat)) (fun _ i _ => 8 - (intOf i).toNat)
      case atStart => exact ⟨0, Nat.zero_le _, rfl, rfl⟩
      case round =>
        obtain ⟨q, hq, rfl, rfl⟩ := hrel
        have hlt4 := bitsN_lt hlt3 q
        clear hsp
        generalize hT : bitsN q (S ^^^ (l[j]).toNat) = T at hlt4 ⊢
        have HT := hide hT
        clear hT
        by_cases hq1 : q < 8
        · rcases Nat.mod_two_eq_zero_or_one T with h0 | h0
          · have hb : ((T : Int) % 2 == 1) = false := by simp; omega
            have HE := hide h0
            clear h0
            go_wp2
            go_round
            case rel => exact ⟨q + 1, by omega, by go_num, by rw [show bitsN (q + 1) (S ^^^ l[j].toNat) = bitN T from by rw [← HT.out]; rfl, spell_bit0 T hlt4 HE.out]⟩
            case measure => simp [intOf]; omega
          · have hb : ((T : Int) % 2 == 1) = true := by simp; omega
            have HE := hide h0
            clear h0
            go_wp2
            go_round
            case rel => exact ⟨q + 1, by omega, by go_num, by rw [show bitsN (q + 1) (S ^^^ l[j].toNat) = bitN T from by rw [← HT.out]; rfl, spell_bit1 T hlt4 HE.out]⟩
            case measure => simp [intOf]; omega
        · go_wp2
          go_round
          case rel =>
            refine ⟨j + 1, by omega, by go_num, ?_⟩
            obtain rfl : q = 8 := by omega
            rw [List.take_succ_eq_append_getElem hj2, regN_snoc, HS.out, ← HT.out]
            rfl
          case measure => simp [intOf]; omega
    · go_wp2
      go_ret
      have HF : regN 4294967295 l = S := by rw [← HS.out, List.take_of_length_le (by omega)]
      refine ⟨ret_int ?_, rfl⟩
      unfold sumN
      rw [HF]
      exact spell_full S hlt2

/-! ### CopyBytes, join -/
theorem copyBytes_any (A : Option Addr) (n c : Nat) (l : List UInt8) (w : World) (hr : RdB w w.heap.size A n l) (hn : n ≤ 140737488351232) :
    Calls Try.prog 9 #[.slice A n c] w fun e w' => ∃ v, e = .returned v ∧ Ow w' w.heap.size 5 1 v n (l.map bv) ∧ Below w.heap.size w w' := by
  obtain ⟨i0, hi0, hz0, hz1, hz2⟩ := info_parts Try.info8
  go_enter Try.func9, Try.ntmps9
  go_wp2_with (at_builtin; refine wpList_append_ow _ rfl (.tmp 3) (.tmp 4) _ rfl w.heap.size 5 i0 _ 1 1 Try.underlying23 hi0 hz0 hz1 hz2 rfl (by omega) (.slice (some ⟨w.heap.size, 0, none⟩) 0 0) 0 [] rfl (Ow.lit w #[] 0 (Nat.le_refl _) (by simp [maxLen]) rfl) w.heap.size A n c (l.map bv) rfl (hr.alloc (Nat.le_refl _) _) (bvs_one l) (by simp only [maxLen]; omega) (by omega) (by simp) ?_; intro v1 w1 hown1 hg1 hat1 hnn1)
  go_ret
  refine ⟨_, rfl, by simpa using hown1, ?_⟩
  exact (((Below.refl _ _).alloc (Nat.le_refl _) _).grown hg1 (by simp) (by simp [Value.ownBlock]))
end Go.Proofs.Ytlliffbhkagodaa
