/- The checksum as plain arithmetic: one bit, one byte, a list of bytes; and how the walk of the Go text spells one bit's step. -/
import Derived.Laws.BitsAllLaws
import Derived.WalkKit
namespace Go.Proofs.Ytlliffbhkagodaa

/-- One bit's step of the register. -/
def bitN (r : Nat) : Nat := (r / 2) ^^^ (if r % 2 = 1 then 3988292384 else 0)
def bitsN : Nat → Nat → Nat
  | 0, r => r
  | k + 1, r => bitN (bitsN k r)
def byteN (r : Nat) (x : UInt8) : Nat := bitsN 8 (r ^^^ x.toNat)
def regN (r : Nat) (l : List UInt8) : Nat := l.foldl byteN r
def sumN (l : List UInt8) : Nat := 4294967295 - regN 4294967295 l

theorem bitN_lt {r : Nat} (h : r < 4294967296) : bitN r < 4294967296 := by
  unfold bitN
  exact Nat.xor_lt_two_pow (n := 32) (by omega) (by split <;> omega)
theorem bitsN_lt {r : Nat} (h : r < 4294967296) : ∀ k, bitsN k r < 4294967296
  | 0 => h
  | k + 1 => bitN_lt (bitsN_lt h k)
theorem xor_byte_lt {r : Nat} (h : r < 4294967296) (x : UInt8) : r ^^^ x.toNat < 4294967296 :=
  Nat.xor_lt_two_pow (n := 32) (by omega) (by have := x.toNat_lt; omega)
theorem byteN_lt {r : Nat} (h : r < 4294967296) (x : UInt8) : byteN r x < 4294967296 := bitsN_lt (xor_byte_lt h x) 8
theorem regN_lt : ∀ (l : List UInt8) {r : Nat}, r < 4294967296 → regN r l < 4294967296
  | [], _, h => h
  | x :: l, _, h => regN_lt l (byteN_lt h x)
theorem sumN_lt (l : List UInt8) : sumN l < 4294967296 := by unfold sumN; omega
theorem regN_append (r : Nat) (a b : List UInt8) : regN r (a ++ b) = regN (regN r a) b := List.foldl_append
theorem regN_snoc (r : Nat) (l : List UInt8) (x : UInt8) : regN r (l ++ [x]) = byteN (regN r l) x := by rw [regN_append]; rfl

/-! ### how the walk spells it -/
theorem u32_low (r : Nat) : r &&& 1 = r % 2 := Nat.and_one_is_mod r
theorem spell_bit (r : Nat) (h : r < 4294967296) :
    bits BinOp.xor IntKind.u32 ((r : Int) / 2) (bits BinOp.and IntKind.u32 (-bits BinOp.and IntKind.u32 (r : Int) 1 % 4294967296) 3988292384) = ((bitN r : Nat) : Int) := by
  have h1 : bits BinOp.and IntKind.u32 (r : Int) 1 = ((r % 2 : Nat) : Int) := by
    rw [← u32_low]
    exact u32_and_nat r 1 h (by omega)
  rw [h1]
  rcases Nat.mod_two_eq_zero_or_one r with h0 | h0
  · rw [h0]
    have h2 : bits BinOp.and IntKind.u32 (-((0 : Nat) : Int) % 4294967296) 3988292384 = ((0 : Nat) : Int) := by
      have := u32_and_nat 0 3988292384 (by omega) (by omega)
      simpa using this
    rw [h2, show (r : Int) / 2 = ((r / 2 : Nat) : Int) from by omega, u32_xor_nat _ _ (by omega) (by omega)]
    unfold bitN
    rw [if_neg (by omega)]
  · rw [h0]
    have h2 : bits BinOp.and IntKind.u32 (-((1 : Nat) : Int) % 4294967296) 3988292384 = ((3988292384 : Nat) : Int) := by
      have := u32_and_nat 4294967295 3988292384 (by omega) (by omega)
      simpa using this
    rw [h2, show (r : Int) / 2 = ((r / 2 : Nat) : Int) from by omega, u32_xor_nat _ _ (by omega) (by omega)]
    unfold bitN
    rw [if_pos h0]
theorem spell_byte (r : Nat) (x : UInt8) (h : r < 4294967296) : bits BinOp.xor IntKind.u32 (r : Int) (x.toNat : Int) = ((r ^^^ x.toNat : Nat) : Int) :=
  u32_xor_nat r x.toNat h (by have := x.toNat_lt; omega)
theorem xor_full (R : Nat) (h : R < 4294967296) : 4294967295 ^^^ R = 4294967295 - R := by
  have h1 : (BitVec.ofNat 32 R ^^^ BitVec.allOnes 32).toNat = (~~~ BitVec.ofNat 32 R).toNat := by rw [BitVec.xor_allOnes]
  rw [BitVec.toNat_xor, BitVec.toNat_not, BitVec.toNat_allOnes, BitVec.toNat_ofNat, Nat.mod_eq_of_lt (by omega)] at h1
  rw [Nat.xor_comm]
  simpa using h1
theorem spell_full (R : Nat) (h : R < 4294967296) : bits BinOp.xor IntKind.u32 IntKind.u32.max (R : Int) = ((4294967295 - R : Nat) : Int) := by
  have := u32_xor_nat 4294967295 R (by omega) h
  rw [xor_full R h] at this
  exact this
end Go.Proofs.Ytlliffbhkagodaa
