/- Parts CrcPlain, CrcSum, CrcS, CrcFlipPlain, FrI, Frd, FrJ of the proof, put together. -/
import Derived.Test.YtfbfpnfgabamfaaM10
import Derived.Laws.BitsAllLaws
import Derived.WalkKit
import Derived.Test.YtfbfpnfgabamfaaProg
import Derived.Test.YtfbfpnfgabamfaaShelf
/- The checksum as plain arithmetic: one bit, one byte, a list of bytes; and how the walk of the Go text spells one bit's step. -/
namespace Go.Proofs.Ytfbfpnfgabamfaa
set_option linter.unusedSimpArgs false
set_option linter.unusedVariables false

/-- One bit's step of the register. -/
def bitN (r : Nat) : Nat := (r / 2) ^^^ (if r % 2 = 1 then 3988292384 else 0)
def bitsN : Nat → Nat → Nat
  | 0, r => r
  | k + 1, r => bitN (bitsN k r)
def byteN (r : Nat) (x : UInt8) : Nat := bitsN 8 (r ^^^ x.toNat)
def regN (r : Nat) (l : List UInt8) : Nat := l.foldl byteN r
def sumN (l : List UInt8) : Nat := 4294967295 - regN 4294967295 l

theorem bitN_lt {r : Nat} (h : r < 4294967296) : bitN r < 4294967296 := by
  unfold bitN
  exact Nat.xor_lt_two_pow (n := 32) (by omega) (by split <;> omega)
theorem bitsN_lt {r : Nat} (h : r < 4294967296) : ∀ k, bitsN k r < 4294967296
  | 0 => h
  | k + 1 => bitN_lt (bitsN_lt h k)
theorem xor_byte_lt {r : Nat} (h : r < 4294967296) (x : UInt8) : r ^^^ x.toNat < 4294967296 :=
  Nat.xor_lt_two_pow (n := 32) (by omega) (by have := x.toNat_lt; omega)
theorem byteN_lt {r : Nat} (h : r < 4294967296) (x : UInt8) : byteN r x < 4294967296 := bitsN_lt (xor_byte_lt h x) 8
theorem regN_lt : ∀ (l : List UInt8) {r : Nat}, r < 4294967296 → regN r l < 4294967296
  | [], _, h => h
  | x :: l, _, h => regN_lt l (byteN_lt h x)
theorem sumN_lt (l : List UInt8) : sumN l < 4294967296 := by unfold sumN; omega
theorem regN_append (r : Nat) (a b : List UInt8) : regN r (a ++ b) = regN (regN r a) b := List.foldl_append
theorem regN_snoc (r : Nat) (l : List UInt8) (x : UInt8) : regN r (l ++ [x]) = byteN (regN r l) x := by rw [regN_append]; rfl

/-! ### how the walk spells it -/
theorem u32_low (r : Nat) : r &&& 1 = r % 2 := Nat.and_one_is_mod r
theorem spell_bit (r : Nat) (h : r < 4294967296) :
    bits BinOp.xor IntKind.u32 ((r : Int) / 2) (bits BinOp.and IntKind.u32 (-bits BinOp.and IntKind.u32 (r : Int) 1 % 4294967296) 3988292384) = ((bitN r : Nat) : Int) := by
  have h1 : bits BinOp.and IntKind.u32 (r : Int) 1 = ((r % 2 : Nat) : Int) := by
    rw [← u32_low]
    exact u32_and_nat r 1 h (by omega)
  rw [h1]
  rcases Nat.mod_two_eq_zero_or_one r with h0 | h0
  · rw [h0]
    have h2 : bits BinOp.and IntKind.u32 (-((0 : Nat) : Int) % 4294967296) 3988292384 = ((0 : Nat) : Int) := by
      have := u32_and_nat 0 3988292384 (by omega) (by omega)
      simpa using this
    rw [h2, show (r : Int) / 2 = ((r / 2 : Nat) : Int) from by omega, u32_xor_nat _ _ (by omega) (by omega)]
    unfold bitN
    rw [if_neg (by omega)]
  · rw [h0]
    have h2 : bits BinOp.and IntKind.u32 (-((1 : Nat) : Int) % 4294967296) 3988292384 = ((3988292384 : Nat) : Int) := by
      have := u32_and_nat 4294967295 3988292384 (by omega) (by omega)
      simpa using this
    rw [h2, show (r : Int) / 2 = ((r / 2 : Nat) : Int) from by omega, u32_xor_nat _ _ (by omega) (by omega)]
    unfold bitN
    rw [if_pos h0]
theorem spell_byte (r : Nat) (x : UInt8) (h : r < 4294967296) : bits BinOp.xor IntKind.u32 (r : Int) (x.toNat : Int) = ((r ^^^ x.toNat : Nat) : Int) :=
  u32_xor_nat r x.toNat h (by have := x.toNat_lt; omega)
theorem xor_full (R : Nat) (h : R < 4294967296) : 4294967295 ^^^ R = 4294967295 - R := by
  have h1 : (BitVec.ofNat 32 R ^^^ BitVec.allOnes 32).toNat = (~~~ BitVec.ofNat 32 R).toNat := by rw [BitVec.xor_allOnes]
  rw [BitVec.toNat_xor, BitVec.toNat_not, BitVec.toNat_allOnes, BitVec.toNat_ofNat, Nat.mod_eq_of_lt (by omega)] at h1
  rw [Nat.xor_comm]
  simpa using h1
theorem spell_full (R : Nat) (h : R < 4294967296) : bits BinOp.xor IntKind.u32 IntKind.u32.max (R : Int) = ((4294967295 - R : Nat) : Int) := by
  have := u32_xor_nat 4294967295 R (by omega) h
  rw [xor_full R h] at this
  exact this
end Go.Proofs.Ytfbfpnfgabamfaa
/- crc.Sum returns the checksum of the parts, one behind the other. -/
namespace Go.Proofs.Ytfbfpnfgabamfaa
set_option linter.unusedSimpArgs false
open Go.RowKit
set_option linter.unusedVariables false

/-- A list of parts that is read: each cell a slice of bytes. -/
def RdP (w : World) (B : Nat) (A : Option Addr) (n : Nat) (ls : List (List UInt8)) : Prop :=
  ls.length = n ∧ ∃ vs, Rd w B 1 A n vs ∧ ∀ i (h : i < ls.length), ∃ Ai ci, vs[i]? = some (.slice Ai ls[i].length ci) ∧ ls[i].length ≤ ci ∧ ls[i].length ≤ 140737488351232 ∧ RdB w B Ai ls[i].length ls[i]
theorem RdP.cell {w : World} {B n : Nat} {A : Option Addr} {ls : List (List UInt8)} (h : RdP w B A n ls) {k : Nat} (hk : k < n) :
    ∃ b off Ai ci l, A = some ⟨b, off, none⟩ ∧ b < B ∧ ls[k]? = some l ∧ w.cell? ⟨b, off + k, none⟩ = some (.slice Ai l.length ci) ∧ l.length ≤ ci ∧ l.length ≤ 140737488351232 ∧ RdB w B Ai l.length l := by
  obtain ⟨hl, vs, hr, hp⟩ := h
  obtain ⟨b, off, e, hb, hc⟩ := hr.at_ hk
  obtain ⟨Ai, ci, h1, h2, h3, h4⟩ := hp k (by omega)
  have hk' : k < vs.length := by have := hr.1; omega
  refine ⟨b, off, Ai, ci, ls[k], e, hb, List.getElem?_eq_getElem (by omega), ?_, h2, h3, h4⟩
  rw [hc k hk']
  rw [List.getElem?_eq_getElem hk'] at h1
  exact h1
/-- A round of the bits' loop leaves the register behind so many bits. -/
theorem crcSum_any (A : Option Addr) (n c : Nat) (ls : List (List UInt8)) (w : World) (hp : RdP w w.heap.size A n ls) (hn : n ≤ maxLen) :
    Calls Try.prog 29 #[.slice A n c] w fun e w' => e = .returned (.int .u32 (sumN ls.flatten : Nat)) ∧ w = w' := by
  unfold maxLen at hn
  go_enter Try.func29, Try.ntmps29
  go_wp2
  go_loop [3, 5, 7, 8, 11] (fun s3 _ _ _ i => ∃ k : Nat, k ≤ n ∧ i = .int .i64 k ∧ s3 = .int .u32 (regN 4294967295 (ls.take k).flatten : Nat)) (fun _ _ _ _ i => n - (intOf i).toNat)
  case atStart => exact ⟨0, Nat.zero_le _, rfl, rfl⟩
  case round =>
    obtain ⟨k, hk, rfl, rfl⟩ := hrel
    have hlt := regN_lt (ls.take k).flatten (r := 4294967295) (by omega)
    generalize hR : regN 4294967295 (ls.take k).flatten = R at hlt ⊢
    have HR := hide hR
    clear hR
    by_cases hk1 : k < n
    · obtain ⟨b, off, Ai, ci, l, rfl, hb, hl, hc, h1, h2, h4⟩ := hp.cell hk1
      have HL := hide hl
      clear hl
      go_wp2
      go_loop [3, 7, 8, 17] (fun s3 _ _ i => ∃ j : Nat, j ≤ l.length ∧ i = .int .i64 j ∧ s3 = .int .u32 (regN R (l.take j) : Nat)) (fun _ _ _ i => l.length - (intOf i).toNat)
      case atStart => exact ⟨0, Nat.zero_le _, rfl, rfl⟩
      case round =>
        obtain ⟨j, hj, rfl, rfl⟩ := hrel
        have hlt2 := regN_lt (l.take j) hlt
        generalize hS : regN R (l.take j) = S at hlt2 ⊢
        have HS := hide hS
        clear hS
        by_cases hj1 : j < l.length
        · obtain ⟨b', off', rfl, hb', hc'⟩ := RdB.cell h4 hj1
          have hx := (l[j]).toNat_lt
          have hsp := spell_byte S l[j] hlt2
          have hlt3 := xor_byte_lt hlt2 l[j]
          go_wp2
          go_loop [3, 8, 25] (fun s3 _ i => ∃ q : Nat, q ≤ 8 ∧ i = .int .i64 q ∧ s3 = .int .u32 (bitsN q (S ^^^ (l[j]).toNat) : Nat)) (fun _ _ i => 8 - (intOf i).toNat)
          case atStart => exact ⟨0, Nat.zero_le _, rfl, rfl⟩
          case round =>
            obtain ⟨q, hq, rfl, rfl⟩ := hrel
            have hlt4 := bitsN_lt hlt3 q
            clear hsp
            generalize hT : bitsN q (S ^^^ (l[j]).toNat) = T at hlt4 ⊢
            have HT := hide hT
            clear hT
            by_cases hq1 : q < 8
            · go_wp2
              go_round
              case rel => exact ⟨q + 1, by omega, by go_num, by rw [spell_bit T hlt4, show bitsN (q + 1) (S ^^^ l[j].toNat) = bitN T from by rw [← HT.out]; rfl]⟩
              case measure => simp [intOf]; omega
            · go_wp2
              go_round
              case rel =>
                refine ⟨j + 1, by omega, by go_num, ?_⟩
                obtain rfl : q = 8 := by omega
                rw [List.take_succ_eq_append_getElem hj1, regN_snoc, HS.out, ← HT.out]
                rfl
              case measure => simp [intOf]; omega
        · go_wp2
          go_round
          case rel =>
            refine ⟨k + 1, by omega, by go_num, ?_⟩
            have e : (ls.take (k + 1)).flatten = (ls.take k).flatten ++ l := by
              rw [List.take_add_one, HL.out]; simp
            rw [e, regN_append, HR.out, ← HS.out, List.take_of_length_le (by omega)]
          case measure => simp [intOf]; omega
    · go_wp2
      go_ret
      have hl := hp.1
      have HF : regN 4294967295 ls.flatten = R := by rw [← HR.out, List.take_of_length_le (by omega)]
      refine ⟨ret_int ?_, rfl⟩
      unfold sumN
      rw [HF]
      exact spell_full R hlt
end Go.Proofs.Ytfbfpnfgabamfaa
/- Seals beside the texts of Use: what CrcB, CrcC and CrcD hold and Use lacks. -/
namespace Go.Proofs.Ytfbfpnfgabamfaa
set_option linter.unusedSimpArgs false
open Go.RowKit
set_option linter.unusedVariables false
/-! ### the bytes of a sum -/
def le4 (s : Nat) : List UInt8 := [UInt8.ofNat s, UInt8.ofNat (s / 256), UInt8.ofNat (s / 65536), UInt8.ofNat (s / 16777216)]
theorem ofNat_u8 (s : Nat) : ((UInt8.ofNat s).toNat : Int) = (s : Int) % 256 := by simp [UInt8.toNat_ofNat']
theorem ofNat_u8d (s d : Nat) : ((UInt8.ofNat (s / d)).toNat : Int) = (s : Int) / (d : Int) % 256 := by simp [UInt8.toNat_ofNat']
theorem le4_spelled (s : Nat) (h : s < 4294967296) : ([Value.int .u8 ((s : Int) % 256), .int .u8 ((s : Int) / 256 % 256), .int .u8 ((s : Int) / 65536 % 256), .int .u8 ((s : Int) / 16777216)] : List Value) = (le4 s).map bv := by
  have h4 : (s : Int) / 16777216 = ((UInt8.ofNat (s / 16777216)).toNat : Int) := by rw [ofNat_u8d]; omega
  rw [h4]
  simp only [le4, List.map, bv, ofNat_u8]
  rfl
theorem Ow.of_fresh {w : World} {lo : Nat} {e : TypeId} {v : Value} {l : List UInt8} (h : Lib.FreshBytes lo w v l) : Ow w lo e 1 v l.length (l.map bv) := by
  obtain ⟨g, cap, zs, rfl, hb, hn, hm, hz, hr, hby, hc, hf⟩ := h
  refine ⟨by simp, ?_⟩
  rcases Nat.eq_zero_or_pos cap with h0 | h0
  · subst h0
    have : l.length = 0 := by omega
    exact .inr (.inl ⟨⟨g, 0, none⟩, by rw [this], hb, this⟩)
  · refine .inr (.inr ⟨g, 0, cap, rfl, hb, World.block_lt_of_cell? w _ (hc 0 h0), hn, hm, fun j hj => ?_, fun j hj => ?_⟩)
    · rw [Nat.zero_add, hc j (by omega), hf j (by omega)]; exact ⟨rfl, rfl⟩
    · have hj' : j < l.length := by simpa using hj
      rw [Nat.zero_add, hc j (by omega)]
      have hjz : j < zs.length := by omega
      have e1 : zs.getD j 0 = zs[j] := by simp [List.getD, List.getElem?_eq_getElem hjz]
      have e2 : l[j] = UInt8.ofNat (zs[j]).toNat := by
        have : l = (zs.take l.length).map (fun x => UInt8.ofNat x.toNat) := hby.symm
        rw [List.getElem_of_eq this]
        simp
      have hrz := hr zs[j] (List.getElem_mem _)
      rw [e1, List.getElem_map, bv, e2]
      have : ((UInt8.ofNat (zs[j]).toNat).toNat : Int) = zs[j] := by
        rw [ofNat_u8]
        omega
      rw [this]

theorem join_lib (A : Option Addr) (n c : Nat) (ls : List (List UInt8)) (w : World) (hp : RdP w w.heap.size A n ls) (hc : n ≤ c) (hn : n ≤ 140737488351232) (hs : ls.flatten.length ≤ 140737488351232) :
    Calls Try.prog 30 #[.slice A n c, .slice none 0 0] w fun e w' => ∃ v, e = .returned v ∧ Ow w' w.heap.size 5 1 v ls.flatten.length (ls.flatten.map bv) ∧ Below w.heap.size w w' := by
  have hlen := hp.1
  match n, ls, hlen with
  | 0, [], _ =>
    refine (Try.bytes_Join_none A c _ w).mono ?_
    rintro e w' ⟨rfl, rfl⟩
    exact ⟨_, rfl, Ow.lit w #[] 0 (Nat.le_refl _) (by simp [maxLen]) rfl, (Below.refl _ _).alloc (Nat.le_refl _) _⟩
  | 1, [l], _ =>
    obtain ⟨b, off, Ai, ci, l', rfl, hb, hl, hcell, h1, h2, h4⟩ := hp.cell (k := 0) (by omega)
    obtain rfl : l = l' := by simpa using hl
    rcases Nat.eq_zero_or_pos l.length with h0 | h0
    · have he : l = [] := List.eq_nil_of_length_eq_zero h0
      subst he
      refine (Try.bytes_Join_one_empty b off c Ai ci _ w (by simpa using hcell)).mono ?_
      rintro e w' ⟨rfl, rfl⟩
      exact ⟨_, rfl, by simpa using Ow.nil _ _ _ _, Below.refl _ _⟩
    · obtain ⟨bb, oo, rfl, hbb, hcc⟩ := h4.at_ h0
      refine (Try.bytes_Join_one b off c ⟨bb, oo, none⟩ ci l _ w (by simpa using hcell) ?_ h0 (by omega)).mono ?_
      · intro i x hx
        obtain ⟨hi, hx⟩ := List.getElem?_eq_some_iff.1 hx
        rw [Addr.add_lit, hcc i (by simpa using hi)]
        simp [bv, hx]
      · rintro e w' ⟨v, rfl, hf, hbl⟩
        exact ⟨v, rfl, by simpa using Ow.of_fresh hf, hbl⟩
  | k + 2, ls, _ =>
    obtain ⟨b, off, Ai, ci, l', rfl, hb, _⟩ := hp.cell (k := 0) (by omega)
    obtain ⟨_, vs, hr, hv⟩ := hp
    obtain ⟨b2, off2, he, _, hcs⟩ := hr.at_ (k := 0) (by omega)
    injection he with he
    injection he with e1 e2
    subst e1; subst e2
    have hvl : vs.length = ls.length := by have := hr.1; omega
    have hP : Lib.PartsAt w ⟨b, off, none⟩ vs ls := by
      refine ⟨hvl, fun i v hv' => ?_, fun i v l hv' hl' => ?_⟩
      · obtain ⟨hi, hx⟩ := List.getElem?_eq_some_iff.1 hv'
        rw [Addr.add_lit, hcs i hi, hx]
      · obtain ⟨hi, hx⟩ := List.getElem?_eq_some_iff.1 hl'
        obtain ⟨Ai, ci, h1, h2, h3, h4⟩ := hv i hi
        rw [hv'] at h1
        injection h1 with h1
        subst h1
        subst hx
        refine ⟨Ai, ci, rfl, fun hn => ?_, fun a ha j x hx => ?_⟩
        · subst hn
          rcases Nat.eq_zero_or_pos ls[i].length with h0 | h0
          · exact List.eq_nil_of_length_eq_zero h0
          · obtain ⟨_, _, h, _⟩ := h4.at_ h0
            cases h
        · obtain ⟨hj, hx⟩ := List.getElem?_eq_some_iff.1 hx
          obtain ⟨bb, oo, h, _, hcc⟩ := RdB.cell h4 hj
          rw [ha] at h
          injection h with h
          subst h
          rw [Addr.add_lit, hcc, hx]
    have hlens : Lib.lens ls = ls.flatten.length := by simp [Lib.lens]
    refine (Try.bytes_Join_many b off (k + 2) c vs ls (.slice none 0 0) [] w (by omega) (by omega) hP hc ⟨none, 0, rfl, fun _ => rfl, fun a ha => by cases ha⟩ (by omega) (by rw [hlens]; simp only [List.length_nil, Nat.zero_mul]; omega)).mono ?_
    rintro e w' ⟨v, rfl, hf, hbl⟩
    have hj : Lib.join ls [] = ls.flatten := by
      match ls with
      | [] => rfl
      | x :: r => rw [Lib.join_cons]; simp [Lib.joinTail]
    rw [hj] at hf
    exact ⟨v, rfl, Ow.of_fresh hf, hbl⟩
theorem RdP.one {w : World} {A : Option Addr} {n c : Nat} {l : List UInt8} (e : TypeId) (h : RdB w w.heap.size A n l) (hc : n ≤ c) (hn : n ≤ 140737488351232) :
    RdP (w.alloc (.cells #[.slice A n c] e)) (w.alloc (.cells #[.slice A n c] e)).heap.size (some ⟨w.heap.size, 0, none⟩) 1 [l] := by
  have hl := RdB.len h
  refine ⟨rfl, [.slice A n c], by simpa using Rd.lit w #[.slice A n c] e 1 1 (by simp [maxLen]) rfl, fun i hi => ?_⟩
  obtain rfl : i = 0 := by simpa using hi
  exact ⟨A, c, by simp [hl], by simpa [hl] using hc, by simpa [hl] using hn, by simpa [hl] using Rd.alloc' h _⟩
theorem seal_any (A : Option Addr) (n c : Nat) (ls : List (List UInt8)) (w : World) (hp : RdP w w.heap.size A n ls) (hc : n ≤ c) (hn : n ≤ 140737488351232) (hs : ls.flatten.length ≤ 70368744175616) :
    Calls Try.prog 17 #[.slice A n c] w fun e w' => ∃ v, e = .returned v ∧ Ow w' w.heap.size 5 1 v (ls.flatten.length + 4) ((ls.flatten ++ le4 (sumN ls.flatten)).map bv) ∧ Below w.heap.size w w' := by
  obtain ⟨i0, hi0, hz0, hz1, hz2⟩ := info_parts Try.info8
  have hlt := sumN_lt ls.flatten
  have hle := le4_spelled (sumN ls.flatten) hlt
  have HLE := hide hle
  clear hle
  have hm : n ≤ maxLen := by simp only [maxLen]; omega
  go_enter Try.func17, Try.ntmps17
  go_wp2_with (first
   | (go_at_call 29; refine (crcSum_any A n c ls _ hp hm).mono ?_; rintro e w' ⟨rfl, rfl⟩)
   | (go_at_call 30; refine (join_lib A n c ls _ hp hc hn (by omega)).mono ?_; rintro e w1 ⟨v1, rfl, hown1, hb1⟩)
   | (at_builtin; refine wpList_append_ow _ rfl (.tmp 9) (.tmp 21) _ rfl w.heap.size 5 i0 _ 1 1 Try.underlying28 hi0 hz0 hz1 hz2 rfl (by omega) v1 _ _ rfl (hown1.alloc _) (w1.heap.size + 1) (some ⟨w1.heap.size, 0, none⟩) 4 4 ((le4 (sumN ls.flatten)).map bv) rfl (by rw [← HLE.out]; exact Rd.lit _ _ _ _ _ (by simp [maxLen]) rfl) (bvs_one _) (by simp only [maxLen]; omega) (by omega) (by have := hb1.size; simp; omega) ?_; intro v2 w2 hown2 hg2 hat2 hnn2))
  go_ret
  refine ⟨_, rfl, ?_, ?_⟩
  · rw [List.map_append]
    simpa using hown2
  · exact (hb1.alloc hb1.size _).grown hg2 (by have := hb1.size; simp; omega) (fun k hk => hown1.lt k hk)

/-! ### four bytes as a number -/
def val4 (x0 x1 x2 x3 : UInt8) : Nat := x0.toNat + x1.toNat * 256 + x2.toNat * 65536 + x3.toNat * 16777216
theorem or_add (a b i : Nat) (h : a < 2 ^ i) : a ||| b * 2 ^ i = a + b * 2 ^ i := by
  have := Nat.two_pow_add_eq_or_of_lt h b
  rw [Nat.mul_comm, Nat.add_comm] at this
  rw [this, Nat.or_comm]
theorem val4_spelled (x0 x1 x2 x3 : UInt8) :
    bits BinOp.or IntKind.u32 (bits BinOp.or IntKind.u32 (bits BinOp.or IntKind.u32 (x0.toNat : Int) ((x1.toNat : Int) * 256)) ((x2.toNat : Int) * 65536)) ((x3.toNat : Int) * 16777216) = ((val4 x0 x1 x2 x3 : Nat) : Int) := by
  have b0 := x0.toNat_lt
  have b1 := x1.toNat_lt
  have b2 := x2.toNat_lt
  have b3 := x3.toNat_lt
  have e1 : bits BinOp.or IntKind.u32 (x0.toNat : Int) ((x1.toNat : Int) * 256) = ((x0.toNat + x1.toNat * 256 : Nat) : Int) := by
    have := u32_or_nat x0.toNat (x1.toNat * 256) (by omega) (by omega)
    rw [or_add _ _ 8 (by omega)] at this
    simpa using this
  have e2 : bits BinOp.or IntKind.u32 ((x0.toNat + x1.toNat * 256 : Nat) : Int) ((x2.toNat : Int) * 65536) = ((x0.toNat + x1.toNat * 256 + x2.toNat * 65536 : Nat) : Int) := by
    have := u32_or_nat (x0.toNat + x1.toNat * 256) (x2.toNat * 65536) (by omega) (by omega)
    rw [or_add _ _ 16 (by omega)] at this
    simpa using this
  have e3 : bits BinOp.or IntKind.u32 ((x0.toNat + x1.toNat * 256 + x2.toNat * 65536 : Nat) : Int) ((x3.toNat : Int) * 16777216) = ((val4 x0 x1 x2 x3 : Nat) : Int) := by
    have := u32_or_nat (x0.toNat + x1.toNat * 256 + x2.toNat * 65536) (x3.toNat * 16777216) (by omega) (by omega)
    rw [or_add _ _ 24 (by omega)] at this
    simpa [val4] using this
  rw [e1, e2, e3]
theorem val4_iff (x0 x1 x2 x3 : UInt8) (s : Nat) (h : s < 4294967296) : val4 x0 x1 x2 x3 = s ↔ [x0, x1, x2, x3] = le4 s := by
  have b0 := x0.toNat_lt
  have b1 := x1.toNat_lt
  have b2 := x2.toNat_lt
  have b3 := x3.toNat_lt
  simp only [le4, List.cons.injEq, and_true, ← UInt8.toNat_inj, UInt8.toNat_ofNat', val4]
  omega

def openOk (l : List UInt8) : Bool := decide (4 ≤ l.length ∧ l.drop (l.length - 4) = le4 (sumN (l.take (l.length - 4))))
def openErr (l : List UInt8) : Int := if l.length < 4 then 15 else if openOk l then 0 else 14
def openBody (l : List UInt8) : List UInt8 := if openOk l then l.take (l.length - 4) else []

theorem open_any (A : Option Addr) (n c : Nat) (l : List UInt8) (w : World) (hr : RdB w w.heap.size A n l) (hc : n ≤ c) (hcm : c ≤ maxLen) (hn : n ≤ 140737488351232) :
    Calls Try.prog 18 #[.slice A n c] w fun e w' => ∃ v, e = .returned (.tuple #[v, .int .i64 (openErr l)]) ∧ Ow w' w.heap.size 5 1 v (openBody l).length ((openBody l).map bv) ∧ Below w.heap.size w w' := by
  have hlen := RdB.len hr
  unfold maxLen at hcm
  by_cases h4 : n < 4
  · have e1 : openErr l = 15 := by unfold openErr; rw [if_pos (by omega)]
    have e2 : openBody l = [] := by unfold openBody openOk; rw [if_neg (by simp; omega)]
    rw [e1, e2]
    go_enter Try.func18, Try.ntmps18
    go_wp2
    go_ret2
    exact ⟨_, rfl, Ow.nil _ _ _ _, Below.refl _ _⟩
  · obtain ⟨m, rfl⟩ : ∃ m, n = m + 4 := ⟨n - 4, by omega⟩
    obtain ⟨b, off, rfl, hb, hcell⟩ := hr.at_ (k := 0) (by omega)
    have hl : l.length = m + 4 := by omega
    have c0 : w.cell? ⟨b, off + m, none⟩ = some (.int .u8 ((l[m]'(by omega)).toNat : Int)) := by rw [hcell m (by simp; omega)]; simp [bv]
    have c1 : w.cell? ⟨b, off + m + 1, none⟩ = some (.int .u8 ((l[m + 1]'(by omega)).toNat : Int)) := by rw [Nat.add_assoc, hcell (m + 1) (by simp; omega)]; simp [bv]
    have c2 : w.cell? ⟨b, off + m + 2, none⟩ = some (.int .u8 ((l[m + 2]'(by omega)).toNat : Int)) := by rw [Nat.add_assoc, hcell (m + 2) (by simp; omega)]; simp [bv]
    have c3 : w.cell? ⟨b, off + m + 3, none⟩ = some (.int .u8 ((l[m + 3]'(by omega)).toNat : Int)) := by rw [Nat.add_assoc, hcell (m + 3) (by simp; omega)]; simp [bv]
    clear hcell
    have hd : l.drop m = [l[m]'(by omega), l[m + 1]'(by omega), l[m + 2]'(by omega), l[m + 3]'(by omega)] := by
      rw [List.drop_eq_getElem_cons (by omega), List.drop_eq_getElem_cons (by omega), List.drop_eq_getElem_cons (by omega), List.drop_eq_getElem_cons (by omega), List.drop_of_length_le (by omega)]
    generalize l[m]'(by omega) = x0 at c0 hd
    generalize l[m + 1]'(by omega) = x1 at c1 hd
    generalize l[m + 2]'(by omega) = x2 at c2 hd
    generalize l[m + 3]'(by omega) = x3 at c3 hd
    have HD := hide hd
    clear hd
    have b0 := x0.toNat_lt
    have b1 := x1.toNat_lt
    have b2 := x2.toNat_lt
    have b3 := x3.toNat_lt
    have hsl := sumN_lt (l.take m)
    have hiff := val4_iff x0 x1 x2 x3 (sumN (l.take m)) hsl
    have hsub : m + 4 - 4 = m := by omega
    have hok : openOk l = decide (val4 x0 x1 x2 x3 = sumN (l.take m)) := by
      unfold openOk
      rw [hl, hsub, HD.out]
      apply decide_eq_decide.2
      rw [hiff]
      simp
    have hrm : RdB w w.heap.size (some ⟨b, off, none⟩) m (l.take m) := by
      have := hr.take (k := m) (by omega)
      rwa [Nat.mul_one, ← List.map_take] at this
    have herr : openErr l = if openOk l then 0 else 14 := by unfold openErr; rw [if_neg (by omega)]
    have hbody : openBody l = if openOk l then l.take m else [] := by unfold openBody; rw [hl, hsub]
    clear hsub hiff
    have hvs := val4_spelled x0 x1 x2 x3
    by_cases hv : val4 x0 x1 x2 x3 = sumN (l.take m)
    · have hne : (bits BinOp.or IntKind.u32 (bits BinOp.or IntKind.u32 (bits BinOp.or IntKind.u32 (x0.toNat : Int) ((x1.toNat : Int) * 256)) ((x2.toNat : Int) * 65536)) ((x3.toNat : Int) * 16777216) != ((sumN (l.take m) : Nat) : Int)) = false := by
        rw [hvs, hv]; simp
      rw [decide_eq_true hv] at hok
      rw [hok, if_pos rfl] at herr hbody
      rw [herr, hbody]
      clear hvs hv hok herr hbody HD
      have hlm : (l.take m).length = m := by rw [List.length_take]; omega
      have HLM := hide hlm
      clear hlm hl hlen
      go_enter Try.func18, Try.ntmps18
      go_wp2_with fail
      go_quiet (fail)
      go_wp2_with fail
      go_quiet (fail)
      go_wp2_with fail
      refine (crcSum_any _ _ _ [l.take m] _ (RdP.one (c := c) _ (hrm.drewN _) (by omega) (by omega)) (by simp [maxLen])).mono ?_
      rintro e w' ⟨rfl, rfl⟩
      simp only [List.flatten_cons, List.flatten_nil, List.append_nil]
      go_wp2_with fail
      refine (clone_any _ m c (l.take m) _ (Rd.alloc' (hrm.drewN _) _) (by omega)).mono ?_
      rintro e w1 ⟨v1, rfl, hown1, hb1⟩
      go_wp2_with fail
      go_ret2
      refine ⟨_, rfl, ?_, ?_⟩
      · rw [HLM.out]
        exact hown1.less (by simp)
      · exact ((below_drewN (Below.refl _ _) _).alloc (Nat.le_refl _) _).trans (hb1.mono (by simp))
    · have hne : (bits BinOp.or IntKind.u32 (bits BinOp.or IntKind.u32 (bits BinOp.or IntKind.u32 (x0.toNat : Int) ((x1.toNat : Int) * 256)) ((x2.toNat : Int) * 65536)) ((x3.toNat : Int) * 16777216) != ((sumN (l.take m) : Nat) : Int)) = true := by
        rw [hvs]; simp; omega
      rw [decide_eq_false hv] at hok
      rw [hok, if_neg (by simp)] at herr hbody
      rw [herr, hbody]
      clear hvs hv hok herr hbody HD
      have hlm : (l.take m).length = m := by rw [List.length_take]; omega
      have HLM := hide hlm
      clear hlm hl hlen
      go_enter Try.func18, Try.ntmps18
      go_wp2_with fail
      go_quiet (fail)
      go_wp2_with fail
      go_quiet (fail)
      go_wp2_with fail
      refine (crcSum_any _ _ _ [l.take m] _ (RdP.one (c := c) _ (hrm.drewN _) (by omega) (by omega)) (by simp [maxLen])).mono ?_
      rintro e w' ⟨rfl, rfl⟩
      simp only [List.flatten_cons, List.flatten_nil, List.append_nil]
      go_wp2_with fail
      go_ret2
      exact ⟨_, rfl, Ow.nil _ _ _ _, (below_drewN (Below.refl _ _) _).alloc (Nat.le_refl _) _⟩
end Go.Proofs.Ytfbfpnfgabamfaa
/- The plain law behind CrcFlips: the register is linear, and up to 32 bits side by side that are others leave it other. -/
namespace Go.Proofs.Ytfbfpnfgabamfaa
set_option linter.unusedSimpArgs false
set_option linter.unusedVariables false

/-- Bytes as one number, the first the lowest. -/
def leV : List UInt8 → Nat
  | [] => 0
  | x :: l => x.toNat ^^^ (256 * leV l)

theorem xor4 (a b c d : Nat) : (a ^^^ b) ^^^ (c ^^^ d) = (a ^^^ c) ^^^ (b ^^^ d) := by
  rw [Nat.xor_assoc, Nat.xor_assoc, ← Nat.xor_assoc b c d, Nat.xor_comm b c, Nat.xor_assoc c b d]
theorem bitN_xor (a b : Nat) : bitN (a ^^^ b) = bitN a ^^^ bitN b := by
  unfold bitN
  have h1 : (a ^^^ b) / 2 = a / 2 ^^^ b / 2 := by
    have := Nat.xor_div_two (a := a) (b := b)
    exact this
  have h2 : (a ^^^ b) % 2 = (a % 2 + b % 2) % 2 := by
    have := Nat.xor_mod_two_pow (a := a) (b := b) (n := 1)
    simp only [Nat.pow_one] at this
    rw [this]
    rcases Nat.mod_two_eq_zero_or_one a with h | h <;> rcases Nat.mod_two_eq_zero_or_one b with h' | h' <;> rw [h, h'] <;> rfl
  rw [h1, xor4, h2]
  congr 1
  rcases Nat.mod_two_eq_zero_or_one a with h | h <;> rcases Nat.mod_two_eq_zero_or_one b with h' | h' <;> rw [h, h'] <;> simp
theorem bitsN_xor (k a b : Nat) : bitsN k (a ^^^ b) = bitsN k a ^^^ bitsN k b := by
  induction k with
  | zero => rfl
  | succ k ih => simp only [bitsN, ih, bitN_xor]
theorem bitsN_add (j k r : Nat) : bitsN (j + k) r = bitsN j (bitsN k r) := by
  induction j with
  | zero => simp [bitsN]
  | succ j ih => rw [Nat.add_right_comm]; simp only [bitsN, ih]
theorem bitN_even (y : Nat) : bitN (2 * y) = y := by unfold bitN; rw [if_neg (by omega)]; simp
theorem bitsN_pow (k y : Nat) : bitsN k (2 ^ k * y) = y := by
  induction k generalizing y with
  | zero => simp [bitsN]
  | succ k ih =>
    show bitN (bitsN k (2 ^ (k + 1) * y)) = y
    rw [Nat.pow_succ, Nat.mul_assoc, ih, bitN_even]
theorem regN_le (l : List UInt8) : ∀ r, regN r l = bitsN (8 * l.length) (r ^^^ leV l) := by
  induction l with
  | nil => intro r; simp [regN, leV, bitsN]
  | cons x l ih =>
    intro r
    show regN (byteN r x) l = _
    rw [ih, List.length_cons, Nat.mul_succ, bitsN_add, leV, ← Nat.xor_assoc, bitsN_xor 8]
    have h := bitsN_pow 8 (leV l)
    rw [show (2 : Nat) ^ 8 = 256 from rfl] at h
    rw [h]
    rfl
theorem bitN_ne {r : Nat} (h0 : r ≠ 0) (h : r < 4294967296) : bitN r ≠ 0 := by
  unfold bitN
  rcases Nat.mod_two_eq_zero_or_one r with h1 | h1
  · rw [if_neg (by omega)]; simp; omega
  · rw [if_pos h1]
    intro e
    have : r / 2 = 3988292384 := by
      have h2 : (r / 2 ^^^ 3988292384) ^^^ 3988292384 = 0 ^^^ 3988292384 := by rw [e]
      rw [Nat.xor_assoc, Nat.xor_self, Nat.xor_zero, Nat.zero_xor] at h2
      exact h2
    omega
theorem bitsN_ne {r : Nat} (h0 : r ≠ 0) (h : r < 4294967296) : ∀ k, bitsN k r ≠ 0
  | 0 => h0
  | k + 1 => bitN_ne (bitsN_ne h0 h k) (bitsN_lt h k)

/-- Two lists of one length that are others by up to 32 bits side by side have other sums. -/
theorem sum_ne {l t : List UInt8} (hl : t.length = l.length) {f at_ : Nat} (h0 : f ≠ 0) (hf : f < 4294967296) (hat : at_ ≤ 8 * l.length) (hv : leV t = leV l ^^^ (2 ^ at_ * f)) : sumN t ≠ sumN l := by
  have h1 := regN_lt l (r := 4294967295) (by omega)
  have h2 := regN_lt t (r := 4294967295) (by omega)
  unfold sumN
  intro he
  have hr : regN 4294967295 t = regN 4294967295 l := by omega
  rw [regN_le, regN_le, hl, hv, ← Nat.xor_assoc, bitsN_xor] at hr
  have hz : bitsN (8 * l.length) (2 ^ at_ * f) = 0 := by
    have e : bitsN (8 * l.length) (4294967295 ^^^ leV l) ^^^ (bitsN (8 * l.length) (4294967295 ^^^ leV l) ^^^ bitsN (8 * l.length) (2 ^ at_ * f)) = bitsN (8 * l.length) (4294967295 ^^^ leV l) ^^^ bitsN (8 * l.length) (4294967295 ^^^ leV l) := by rw [hr]
    rwa [← Nat.xor_assoc, Nat.xor_self, Nat.zero_xor] at e
  have hs : 8 * l.length = (8 * l.length - at_) + at_ := by omega
  rw [hs, bitsN_add, bitsN_pow] at hz
  exact bitsN_ne h0 hf _ hz

/-! ### the flips, one by one -/
def bitOf (q : Nat) : UInt8 := UInt8.ofNat (2 ^ (q % 8))
theorem modify_set (f : UInt8 → UInt8) (l : List UInt8) (k : Nat) (h : k < l.length) : l.modify k f = l.set k (f l[k]) := by
  apply List.ext_getElem (by simp)
  intro i h1 h2
  rw [List.getElem_modify, List.getElem_set]
  by_cases hk : k = i
  · subst hk; simp
  · simp [hk]
theorem leV_modify : ∀ (l : List UInt8) (k : Nat) (y : UInt8), k < l.length → leV (l.modify k (· ^^^ y)) = leV l ^^^ (2 ^ (8 * k) * y.toNat)
  | [], _, _, h => by simp at h
  | x :: l, 0, y, _ => by
    simp only [List.modify_zero_cons, leV, UInt8.toNat_xor, Nat.mul_zero, Nat.pow_zero, Nat.one_mul]
    rw [Nat.xor_assoc, Nat.xor_assoc, Nat.xor_comm y.toNat]
  | x :: l, k + 1, y, h => by
    have ih := leV_modify l k y (by simpa using h)
    simp only [List.modify_succ_cons, leV]
    rw [ih, Nat.xor_assoc]
    congr 1
    have h256 : ∀ a b : Nat, 256 * (a ^^^ b) = 256 * a ^^^ 256 * b := by
      intro a b
      apply Nat.eq_of_testBit_eq
      intro i
      have e : (256 : Nat) = 2 ^ 8 := rfl
      rw [e, Nat.testBit_two_pow_mul, Nat.testBit_xor, Nat.testBit_xor, Nat.testBit_two_pow_mul, Nat.testBit_two_pow_mul]
      by_cases hi : 8 ≤ i <;> simp [hi]
    rw [h256, Nat.mul_succ, Nat.pow_add, ← Nat.mul_assoc]
    congr 2
    rw [Nat.mul_comm]
theorem bitOf_val (q : Nat) : 2 ^ (8 * (q / 8)) * (bitOf q).toNat = 2 ^ q := by
  have h1 : q % 8 < 8 := Nat.mod_lt _ (by omega)
  have h2 : 2 ^ (q % 8) < 2 ^ 8 := Nat.pow_lt_pow_right (by omega) h1
  unfold bitOf
  rw [UInt8.toNat_ofNat', Nat.mod_eq_of_lt (by simpa using h2), ← Nat.pow_add]
  congr 1
  omega
end Go.Proofs.Ytfbfpnfgabamfaa
/- frame: seals and clones, by conditions. -/
namespace Go.Proofs.Ytfbfpnfgabamfaa
set_option linter.unusedSimpArgs false
set_option linter.unusedVariables false
open Go.RowKit
set_option maxRecDepth 100000
section
variable {F : Nat → Prop} {ρ : Nat → Option Value} {w w' : World}
/-- A slice that a call made: the caller's own. -/
theorem own_ret {s : Nat} {rows : List (List D)} {us : List Value} {e : TypeId} {v : Value} (En : Env F ρ (hp []) w) (hf : FlatVs rows.flatten us) (hs : ∀ r ∈ rows, r.length = s) (h0 : 0 < rows.length) (how : Ow w' w.heap.size e s v rows.length us) (hb : Below w.heap.size w w') :
    Post F ρ (hp []) w (hp [.sl s rows]) (.own 0) v w' := by
  have hlt : ∀ k, blkOf v = some k → k < w'.heap.size := fun k hk => by
    obtain ⟨g, off, cap, rfl, _, hg, _⟩ := how.open_ h0
    injection hk with hk
    subst hk
    exact hg
  have hG : w.grownBy w' none := ⟨hb.os, hb.tape, hb.output, hb.size, fun b h _ => hb.block b h⟩
  have hnone : hp ([] : List AObj) 0 = none := rfl
  obtain ⟨A', c', he, g1, g2, hrd⟩ := how.form
  subst he
  have how0 : Ow w' 0 0 s (.slice A' rows.length c') rows.length us := ⟨how.1, by
    rcases how.2 with h | ⟨a, h, _, h'⟩ | ⟨g, off, cap, h, _, h'⟩
    · exact .inl h
    · exact .inr (.inl ⟨a, h, Nat.zero_le _, h'⟩)
    · exact .inr (.inr ⟨g, off, cap, h, Nat.zero_le _, h'⟩)⟩
  obtain ⟨S, K, E⟩ := En.new (n := 0) (o' := .sl s rows) (h := .slice A' rows.length c') hnone hG (fun b hb' => ⟨how.lt b (by rw [← blk_own rfl]; exact hb'), hlt b hb'⟩) ⟨_, how0, hf.rds, hs⟩
  have e : updF (hp []) 0 (some (.sl s rows)) = hp [.sl s rows] := by
    funext i
    match i with
    | 0 => rfl
    | i + 1 => rfl
  rw [e] at S E
  exact ⟨F, _, S, K, E, .own (updF_same _ _ _)⟩
/-- A slice that a call made, as data from then on. -/
theorem data_ret {s : Nat} {rows : List (List D)} {us : List Value} {e : TypeId} {v : Value} (En : Env F ρ (hp []) w) (hf : FlatVs rows.flatten us) (hs : ∀ r ∈ rows, r.length = s) (how : Ow w' w.heap.size e s v rows.length us) (hb : Below w.heap.size w w') :
    ∃ F' ρ', Step F ρ (hp []) w F' ρ' (hp []) w' ∧ Keep ρ ρ' ∧ Env F' ρ' (hp []) w' ∧ RD w' F' (.sl s rows) v := by
  obtain ⟨S, E'⟩ := step_below En hb
  obtain ⟨A', c', he, g1, g2, hrd⟩ := how.form
  rcases Nat.eq_zero_or_pos rows.length with h0 | h0
  · obtain rfl := List.eq_nil_of_length_eq_zero h0
    subst he
    exact ⟨F, ρ, S, Keep.refl _, E', .sl rfl hs g1 g2 .nil fun h => by simp at h⟩
  · have hlt : ∀ k, blkOf v = some k → k < w'.heap.size := fun k hk => by
      obtain ⟨g, off, cap, rfl, _, hg, _⟩ := how.open_ h0
      injection hk with hk
      subst hk
      exact hg
    have hge : ∀ k, blkOf v = some k → w.heap.size ≤ k := fun k hk => by
      obtain ⟨g, off, cap, rfl, hg, _⟩ := how.open_ h0
      injection hk with hk
      subst hk
      exact hg
    subst he
    have no : ∀ (i : Nat) (o : AObj), hp [] i = some o → False := fun i o h => by simp [hp] at h
    refine ⟨fun b => F b ∨ blkOf (.slice A' rows.length c') = some b, ρ, ⟨S.os, S.tape, S.output, S.size, S.unch, fun b h => .inl h, fun b h => h.elim .inl fun h => .inr (.inl (hge b h)), fun b ⟨i, o, _, h, _⟩ => (no i o h).elim⟩, Keep.refl _, ⟨fun b h => h.elim (E'.fb b) (hlt b), E'.abs, fun i o h => (no i o h).elim, fun i j o o' _ _ _ h => (no i o h).elim⟩, ?_⟩
    refine .sl rfl hs g1 g2 hf.rds fun hp' => ?_
    obtain ⟨b, off, rfl, hb, hc⟩ := hrd.2 hp'
    exact ⟨b, off, rfl, .inr rfl, hc⟩
end
theorem seal_sat (l : Bt) (hl : l.length ≤ 100000000) : Sat Try.prog 17 [.d (.sl 1 [[bsD l]])] [] (.own 0) [.sl 1 ((l ++ le4 (sumN l)).map bR)] := by
  intro F ρ w vals En hv
  obtain ⟨v, rfl, hv'⟩ := hv.one_out
  cases hv' with | d hv =>
  cases hv with | sl hn hs h1 h2 hr hm =>
  have hr : RDs w F [bsD l] _ := hr
  cases hr with | cons hr1 h11 hr2 =>
  cases hr2
  obtain ⟨A1, c1, rfl, k1, k2, k3⟩ := hr1.sl_rd En.fb (bR_flats l)
  rw [List.length_map] at k1 k3 hm
  subst hn
  obtain ⟨b, off, rfl, hb, hc⟩ := hm (Nat.zero_lt_one)
  have hp : RdP w w.heap.size (some ⟨b, off, none⟩) 1 [l] := ⟨rfl, [.slice A1 l.length c1], ⟨rfl, fun _ => ⟨b, off, rfl, En.fb b hb, hc⟩⟩, fun i hi => by
    obtain rfl : i = 0 := by simpa using hi
    exact ⟨A1, c1, rfl, k1, by show l.length ≤ _; omega, k3⟩⟩
  refine (seal_any _ _ _ [l] w hp h1 (by decide) (by simp; omega)).mono ?_
  rintro x w' ⟨v, rfl, how, hb⟩
  simp only [List.flatten_cons, List.flatten_nil, List.append_nil] at how
  have hlen : ((l ++ le4 (sumN l)).map bR).length = l.length + 4 := by rw [List.length_map, List.length_append]; rfl
  refine ⟨v, rfl, own_ret En (bR_flats _) one_len (by rw [hlen]; omega) (by rw [hlen]; exact how) hb⟩
theorem bcloneD_sat (l : Bt) (hl : l.length ≤ 100000000) : Sat Try.prog 31 [.d (bsD l)] [] (.d (bsD l)) [] := by
  intro F ρ w vals En hv
  obtain ⟨v, rfl, hv'⟩ := hv.one_out
  cases hv' with | d hv =>
  obtain ⟨A1, c1, rfl, k1, k2, k3⟩ := hv.sl_rd En.fb (bR_flats l)
  rw [List.length_map] at k1 k3 ⊢
  refine (clone_any A1 _ c1 l w k3 (by omega)).mono ?_
  rintro x w' ⟨v, rfl, how, hb⟩
  obtain ⟨F1, ρ1, S, K, E, R⟩ := data_ret En (bR_flats l) one_len (by rw [List.length_map]; exact how) hb
  exact ⟨_, rfl, F1, ρ1, S, K, E, .d R⟩
theorem newG_sat (l : Bt) (hl : l.length ≤ 65536) : Sat Try.prog 33 [.d (bsD l)] [] (.ptr 0 0) [rsO (l, 0)] := by
  have c1 := bcloneD_sat l (by omega)
  refine sat_of_vc (T := tiOf Try.prog) (E := E0) Try.func33 rfl rfl hE0 hm0 rfl ?_
  conv => whnf
  iterate 3
    repeat' (first | exact True.intro | ((first | refine And.intro (fun _ => ?_) tf | refine And.intro ft (fun _ => ?_) | refine And.intro (by kernel_rfl) ?_ | refine And.intro (by decide) ?_ | refine And.intro (fun _ => ?_) (fun h => absurd h (by decide)) | refine And.intro (fun h => absurd h (by decide)) (fun _ => ?_) | refine ⟨_, _, c1.pu rfl rfl, ?_⟩ | fail); conv => whnf) | (refine And.intro (fun _ => ?_) (fun _ => ?_) <;> conv => whnf) | fail)
    all_goals try (refine Or.inl ?_; conv => whnf)
  all_goals refine ⟨[], ?_⟩
  repeat (any_goals (first | exact True.intro | exact rfl | with_reducible_and_instances rfl | exact (by kernel_rfl) | refine And.intro ?_ ?_))
  all_goals conv => whnf
end Go.Proofs.Ytfbfpnfgabamfaa
/- An operation whose new slice is data from the first. No program is named here. -/
namespace Go.Proofs.Ytfbfpnfgabamfaa
set_option linter.unusedSimpArgs false
open Go.RowKit
set_option linter.unusedVariables false
theorem Runs.mono {P : Program} {s : Result Next} {p q : Value → World → Prop} (h : Runs P s p) (hpq : ∀ v w, p v w → q v w) : Runs P s q := by
  unfold Runs at h ⊢
  split at h
  · exact hpq _ _ h
  · exact hpq _ _ h
  · exact h.mono fun e w ⟨v, he, hv⟩ => ⟨v, he, hpq _ _ hv⟩
  · exact h.elim
theorem Does.frz {P : Program} {op : Op} {ty n s : Nat} {L : List AObj} {xs : List AV} {rs : List Nat} {ws : List (Nat × AObj)} {rows : List (List D)} (h : Does P op ty L n xs ⟨rs, ws, [.sl s rows]⟩ (.own n)) :
    Does P op ty L n xs ⟨rs, ws, [.dead]⟩ (.d (.sl s rows)) := by
  intro o H F ρ w ev ho ht E hrs hn hx
  refine (h o H F ρ w ev ho ht E hrs hn hx).mono ?_
  rintro v w' ⟨F', ρ', S, K, E', R⟩
  have hn' : appN n [AObj.sl s rows] (appW ws H) n = some (.sl s rows) := updF_same _ _ _
  cases R with | own R =>
    rename_i A m c
    obtain ⟨hh, e1, ⟨vs, how, hra, hs1⟩, e3⟩ := E'.rep n _ hn' rfl
    rw [R] at e1; injection e1 with e1; subst e1
    obtain ⟨A', c', he, g1, g2, hrd⟩ := how.form
    injection he with q1 q2 q3
    subst q1 q2 q3
    obtain ⟨S1, E1⟩ := E'.freeze hn' rfl R
    have eH : updF (appN n [AObj.sl s rows] (appW ws H)) n (some .dead) = appN n [.dead] (appW ws H) := by
      funext j
      show updF (updF (appW ws H) n _) n _ j = updF (appW ws H) n _ j
      by_cases e : j = n
      · subst e; rw [updF_same, updF_same]
      · rw [updF_ne _ _ e, updF_ne _ _ e, updF_ne _ _ e]
    rw [eH] at S1 E1
    have hd : RD w' (fun b => F' b ∨ blkOf (.slice A rows.length c) = some b) (.sl s rows) (.slice A rows.length c) := .sl rfl hs1 g1 g2 (hra.mono (fun _ _ => rfl) fun _ h => .inl h) fun hp' => by
      obtain ⟨b, off, rfl, hb, hc⟩ := hrd.2 hp'
      exact ⟨b, off, rfl, .inr rfl, hc⟩
    exact ⟨_, ρ', S.trans S1, K, E1, .d hd⟩
end Go.Proofs.Ytfbfpnfgabamfaa
/- frame: Right at any kind; what Encode writes. -/
namespace Go.Proofs.Ytfbfpnfgabamfaa
set_option linter.unusedSimpArgs false
open Go.RowKit
set_option maxRecDepth 100000
set_option linter.unusedVariables false
theorem right_sat (f : Fr) (hf : FrOk f) : Sat Try.prog 10 [.d (frD f)] [] (bA (rightF f)) [] := by
  unfold rightF
  by_cases h : 1 ≤ f.k ∧ f.k ≤ 8
  · rw [if_pos h]
    have hk : f.k = 1 ∨ f.k = 2 ∨ f.k = 3 ∨ f.k = 4 ∨ f.k = 5 ∨ f.k = 6 ∨ f.k = 7 ∨ f.k = 8 := by omega
    rcases hk with e | e | e | e | e | e | e | e
    all_goals rw [e]
    · exact right_1 f e hf
    · exact right_2 f e hf
    · exact right_3 f e hf
    · exact right_4 f e hf
    · exact right_5 f e hf
    · exact right_6 f e hf
    · exact right_7 f e hf
    · exact right_8 f e hf
  · rw [if_neg h]
    exact right_bad f h
/-- What a frame's kind writes behind its fields. -/
def evT (x : Evt) : Bt := enc x.1.toNat ++ (enc (turnN x.2.1) ++ bytesS x.2.2)
def evsT (l : List Evt) : Bt := (l.map evT).flatten
def extT (f : Fr) (k : Nat) : Bt := if k = 5 then enc f.ev.length ++ evsT f.ev else if k = 8 then bytesS f.sr ++ encTL f.d else []
def fldT (l : List Int) : Bt := (l.map fun x => enc x.toNat).flatten
def frT (f : Fr) (k : Nat) : Bt := enc k ++ fldT (valsK f k) ++ extT f k
def sealT (l : Bt) : Bt := l ++ le4 (sumN l)
/-- The bytes of a frame that is right. -/
def encodeT (f : Fr) : Bt := sealT (frT f f.k.toNat)
theorem serT_len (s : Ser) : (bytesS s).length ≤ 2000 := by
  unfold bytesS
  split
  · rename_i h
    obtain ⟨a1, a2, a3⟩ := right_out h
    have la := nameL_len a1
    have l1 := encTL_len s.1
    have l2 := enc_lens s.2.length
    have l3 := labsT_len a3
    rw [List.length_append, List.length_append]
    omega
  · exact Nat.zero_le _
theorem evT_len (x : Evt) : (evT x).length ≤ 2020 := by
  unfold evT
  have := enc_lens x.1.toNat
  have := enc_lens (turnN x.2.1)
  have := serT_len x.2.2
  rw [List.length_append, List.length_append]; omega
theorem evsT_len : ∀ (l : List Evt), (evsT l).length ≤ 2020 * l.length
  | [] => by simp [evsT]
  | x :: r => by
    have h1 := evT_len x
    have h2 := evsT_len r
    show (evT x ++ evsT r).length ≤ _
    rw [List.length_append, List.length_cons]; omega
theorem evsT_next {l : List Evt} {i : Nat} {x : Evt} (hx : l[i]? = some x) : evsT (l.take (i + 1)) = evsT (l.take i) ++ evT x := by
  unfold evsT
  rw [map_take_succ hx]; simp
theorem fldT_len : ∀ (l : List Int), (fldT l).length ≤ 10 * l.length
  | [] => by simp [fldT]
  | x :: r => by
    have h1 := enc_lens x.toNat
    have h2 := fldT_len r
    show (enc x.toNat ++ fldT r).length ≤ _
    rw [List.length_append, List.length_cons]; omega
theorem valsK_len (f : Fr) (k : Nat) : (valsK f k).length ≤ 6 := by
  unfold valsK
  rw [List.length_map]
  unfold idxK
  split <;> decide
theorem frT_len (f : Fr) (k : Nat) (hk : k ≠ 5) (hd : f.d.length ≤ 4096) : (frT f k).length ≤ 7000 := by
  unfold frT extT
  rw [if_neg hk, List.length_append, List.length_append]
  have h1 := fldT_len (valsK f k)
  have h2 := valsK_len f k
  have h3 := enc_lens k
  have h4 := serT_len f.sr
  have h5 := encTL_len f.d
  split
  · rw [List.length_append]; omega
  · simp; omega
theorem frT_len5 (f : Fr) : (frT f 5).length ≤ 80 + 2020 * f.ev.length := by
  unfold frT extT
  rw [if_pos rfl, List.length_append, List.length_append, List.length_append]
  have h1 := fldT_len (valsK f 5)
  have h2 := valsK_len f 5
  have h3 := enc_lens 5
  have h4 := enc_lens f.ev.length
  have h5 := evsT_len f.ev
  omega
theorem sealT_len (l : Bt) : (sealT l).length = l.length + 4 := by
  unfold sealT
  rw [List.length_append]; rfl
/-- What a right frame's numbers are. -/
theorem right_parts {f : Fr} {k : Nat} (h : rightK f k = true) : headOk f = true ∧ (∀ x ∈ valsK f k, 0 ≤ x ∧ x ≤ 4611686018427387903) ∧ extraB f k = true ∧ sameB f (bareF f k) = true := by
  unfold rightK at h
  simp only [Bool.and_eq_true] at h
  exact ⟨h.1, fun x hx => rngB_iff.1 (List.all_eq_true.1 h.2.1 x hx), h.2.2.1, h.2.2.2⟩
theorem uints1' (n : Nat) (h : n < 18446744073709551616) : Sat Try.prog 12 [.d (.sl 1 [uR n])] [] (.own 0) [.sl 1 ((enc n).map bR)] := by
  have e : encs [n] = enc n := by unfold encs; simp
  have hl := enc_lens n
  have := uints_sat [n] (by simp) (fun y hy => by rw [List.mem_singleton.1 hy]; omega) (by rw [e]; omega)
  rwa [e] at this
/-- A number that is not below nought, as the code writes it. -/
theorem uintsZ (z : Int) (h : 0 ≤ z) (h2 : z ≤ 9223372036854775807) : Sat Try.prog 12 [.d (.sl 1 [[.v (.int .u64 (IntKind.u64.wrap z))]])] [] (.own 0) [.sl 1 ((enc z.toNat).map bR)] := by
  have e : IntKind.u64.wrap z = ((z.toNat : Nat) : Int) := by
    show z % 18446744073709551616 = _
    rw [Int.toNat_of_nonneg h]
    exact Int.emod_eq_of_lt h (by omega)
  rw [e]
  exact uints1' z.toNat (by omega)
theorem ints1 (z : Int) (h : in64 z) : Sat Try.prog 14 [.d (lD [z])] [] (.own 0) [.sl 1 ((enc (turnN z)).map bR)] := by
  have e : encs ([z].map turnN) = enc (turnN z) := by unfold encs; simp
  have hl := enc_lens (turnN z)
  have := ints_sat [z] (by simp) (fun y hy => by rw [List.mem_singleton.1 hy]; exact h) (by rw [e]; omega)
  rwa [e] at this
theorem apx {L : List AObj} {ty n i j : Nat} {sx xx : Operand} {a b : Bt} (hi : L[i]? = some (.sl 1 (a.map bR))) (hj : L[j]? = some (.sl 1 (b.map bR))) (hb : a.length + b.length ≤ 100000000000) : Does Try.prog (.call { callee := .builtin .append, args := #[sx, xx], argTypes := #[28, 28] }) ty L n [.own i, .own j] ⟨[i, j], [(i, .dead)], [.sl 1 ((a ++ b).map bR)]⟩ (.own n) := by
  have := ap (P := Try.prog) (t := 28) (L := L) (ty := ty) (n := n) (i := i) (j := j) (sx := sx) (xx := xx) 1 1 (by kernel_rfl) hi hj (by rw [List.length_map, List.length_map]; omega)
  rwa [← List.map_append] at this
theorem apxd {L : List AObj} {ty n i : Nat} {sx xx : Operand} {a b : Bt} (hi : L[i]? = some (.sl 1 (a.map bR))) (hb : a.length + b.length ≤ 100000000000) : Does Try.prog (.call { callee := .builtin .append, args := #[sx, xx], argTypes := #[28, 28] }) ty L n [.own i, .d (bsD b)] ⟨[i], [(i, .dead)], [.sl 1 ((a ++ b).map bR)]⟩ (.own n) := by
  have := apd (P := Try.prog) (t := 28) (L := L) (ty := ty) (n := n) (i := i) (sx := sx) (xx := xx) (rows2 := b.map bR) 1 1 (by kernel_rfl) hi (by rw [List.length_map, List.length_map]; omega)
  rwa [← List.map_append] at this
theorem apxz {L : List AObj} {ty n i j : Nat} {sx xx : Operand} {a b : Bt} (hi : L[i]? = some (.sl 1 (a.map bR))) (hj : L[j]? = some (.sl 1 (b.map bR))) (hb : a.length + b.length ≤ 100000000000) : Does Try.prog (.call { callee := .builtin .append, args := #[sx, xx], argTypes := #[28, 28] }) ty L n [.own i, .own j] ⟨[i, j], [(i, .dead)], [.dead]⟩ (.d (bsD (a ++ b))) :=
  Does.frz (apx hi hj hb)
end Go.Proofs.Ytfbfpnfgabamfaa
