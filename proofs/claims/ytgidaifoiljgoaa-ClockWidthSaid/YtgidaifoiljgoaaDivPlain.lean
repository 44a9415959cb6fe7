/- Division of 128 bits by 64, digit by digit: the plain laws. No program is named here. -/
import Derived.Test.YtgidaifoiljgoaaBase
namespace Go.Proofs.Ytgidaifoiljgoaa
set_option linter.unusedSimpArgs false
set_option linter.unusedVariables false
/-- The digit: u and w by y. -/
def dgt (u w y : Nat) : Nat := (u * 4294967296 + w) / y
def dgr (u w y : Nat) : Nat := (u * 4294967296 + w) % y
section
variable {u w y h o q r : Nat}
theorem dgt_lt (hy : 0 < y) (hu : u < y) (hw : w < 4294967296) : dgt u w y < 4294967296 := by
  unfold dgt
  rw [Nat.div_lt_iff_lt_mul hy]
  have : u * 4294967296 + 4294967296 ≤ y * 4294967296 := by omega
  rw [Nat.mul_comm 4294967296 y]
  omega
theorem mul_split (hyo : y = h * 4294967296 + o) (q : Nat) : q * y = q * h * 4294967296 + q * o := by rw [hyo, Nat.mul_add, Nat.mul_assoc]
/-- The guess is too great just where the test says so. -/
theorem guess_gt (hy : 0 < y) (hyo : y = h * 4294967296 + o) (hq : u = q * h + r) : r * 4294967296 + w < q * o ↔ dgt u w y < q := by
  unfold dgt
  rw [Nat.div_lt_iff_lt_mul hy, mul_split hyo q, hq]
  generalize q * h = a
  generalize q * o = b
  omega
theorem guess_far (hy : 0 < y) (hyo : y = h * 4294967296 + o) (ho : o < 4294967296) (hq : u = q * h + r) (hr : 4294967296 ≤ r) (hq1 : q ≤ 4294967296) : q ≤ dgt u w y := by
  refine Nat.le_of_not_lt fun hlt => ?_
  rw [← guess_gt hy hyo hq] at hlt
  have h1 : q * o ≤ 4294967296 * 4294967295 := Nat.mul_le_mul hq1 (by omega)
  omega
theorem guess_first (hh : 0 < h) (hyo : y = h * 4294967296 + o) (hn : 2147483648 ≤ h) (ho : o < 4294967296) (hu : u < y) : u / h ≤ 4294967297 := by
  refine Nat.le_of_lt_succ ((Nat.div_lt_iff_lt_mul hh).2 ?_)
  have : (4294967297 + 1) * h = 4294967298 * h := rfl
  omega
theorem guess_ge (hy : 0 < y) (hyo : y = h * 4294967296 + o) (hh : 0 < h) (hw : w < 4294967296) : dgt u w y ≤ u / h := by
  unfold dgt
  rw [Nat.le_div_iff_mul_le hh]
  have h1 : (u * 4294967296 + w) / y * y ≤ u * 4294967296 + w := Nat.div_mul_le_self _ _
  rw [mul_split hyo] at h1
  generalize (u * 4294967296 + w) / y * h = a at h1 ⊢
  generalize (u * 4294967296 + w) / y * o = b at h1
  omega
theorem dgr_lt (hy : 0 < y) : dgr u w y < y := Nat.mod_lt _ hy
theorem dgt_mul (u w y : Nat) : dgt u w y * y + dgr u w y = u * 4294967296 + w := by
  unfold dgt dgr
  rw [Nat.mul_comm]
  exact Nat.div_add_mod _ _
set_option maxRecDepth 100000 in
theorem two_digits (hy : 0 < y) (u a b U : Nat) (hU : U = (u * 4294967296 + a) * 4294967296 + b) : U / y = dgt u a y * 4294967296 + dgt (dgr u a y) b y ∧ U % y = dgr (dgr u a y) b y := by
  have h1 := dgt_mul u a y
  have h2 := dgt_mul (dgr u a y) b y
  have h3 := dgr_lt (u := dgr u a y) (w := b) hy
  have e : U = y * (dgt u a y * 4294967296 + dgt (dgr u a y) b y) + dgr (dgr u a y) b y := by
    rw [hU, ← h1, Nat.add_mul, Nat.add_assoc, ← h2, Nat.mul_add, Nat.mul_comm y (dgt (dgr u a y) b y), ← Nat.mul_assoc, Nat.mul_comm y (dgt u a y)]
    omega
  rw [e]
  exact ⟨by rw [Nat.mul_add_div hy, Nat.div_eq_of_lt h3, Nat.add_zero], by rw [Nat.mul_add_mod, Nat.mod_eq_of_lt h3]⟩
/-- What is shifted. -/
theorem shift_div (N y s : Nat) : N * 2 ^ s / (y * 2 ^ s) = N / y ∧ N * 2 ^ s % (y * 2 ^ s) = N % y * 2 ^ s :=
  ⟨Nat.mul_div_mul_right _ _ (Nat.two_pow_pos s), Nat.mul_mod_mul_right _ _ _⟩
theorem shift_parts (hi lo s : Nat) (hs : s < 64) (hlo : lo < 18446744073709551616) (hh : hi * 2 ^ s < 18446744073709551616) :
    (hi * 18446744073709551616 + lo) * 2 ^ s = (hi * 2 ^ s + lo / 2 ^ (64 - s)) * 18446744073709551616 + lo * 2 ^ s % 18446744073709551616 := by
  have hp : 2 ^ (64 - s) * 2 ^ s = 18446744073709551616 := by rw [← Nat.pow_add, show 64 - s + s = 64 by omega]
  have h1 : lo * 2 ^ s / 18446744073709551616 = lo / 2 ^ (64 - s) := by rw [← hp, Nat.mul_div_mul_right _ _ (Nat.two_pow_pos s)]
  have h2 := Nat.div_add_mod (lo * 2 ^ s) 18446744073709551616
  rw [h1] at h2
  rw [Nat.add_mul, Nat.mul_right_comm, Nat.add_mul, ← h2]
  omega
theorem or_parts (a s b : Nat) (hb : b < 2 ^ s) : a * 2 ^ s ||| b = a * 2 ^ s + b := by
  rw [← Nat.shiftLeft_eq, Nat.shiftLeft_add_eq_or_of_lt hb]
end
end Go.Proofs.Ytgidaifoiljgoaa
