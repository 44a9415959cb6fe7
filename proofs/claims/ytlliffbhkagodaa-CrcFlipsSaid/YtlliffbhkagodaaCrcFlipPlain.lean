/- The plain law behind CrcFlips: the register is linear, and up to 32 bits side by side that are others leave it other. -/
import Derived.Test.YtlliffbhkagodaaCrcPlain
namespace Go.Proofs.Ytlliffbhkagodaa

/-- Bytes as one number, the first the lowest. -/
def leV : List UInt8 → Nat
  | [] => 0
  | x :: l => x.toNat ^^^ (256 * leV l)

theorem xor4 (a b c d : Nat) : (a ^^^ b) ^^^ (c ^^^ d) = (a ^^^ c) ^^^ (b ^^^ d) := by
  rw [Nat.xor_assoc, Nat.xor_assoc, ← Nat.xor_assoc b c d, Nat.xor_comm b c, Nat.xor_assoc c b d]
theorem bitN_xor (a b : Nat) : bitN (a ^^^ b) = bitN a ^^^ bitN b := by
  unfold bitN
  have h1 : (a ^^^ b) / 2 = a / 2 ^^^ b / 2 := by
    have := Nat.xor_div_two (a := a) (b := b)
    exact this
  have h2 : (a ^^^ b) % 2 = (a % 2 + b % 2) % 2 := by
    have := Nat.xor_mod_two_pow (a := a) (b := b) (n := 1)
    simp only [Nat.pow_one] at this
    rw [this]
    rcases Nat.mod_two_eq_zero_or_one a with h | h <;> rcases Nat.mod_two_eq_zero_or_one b with h' | h' <;> rw [h, h'] <;> rfl
  rw [h1, xor4, h2]
  congr 1
  rcases Nat.mod_two_eq_zero_or_one a with h | h <;> rcases Nat.mod_two_eq_zero_or_one b with h' | h' <;> rw [h, h'] <;> simp
theorem bitsN_xor (k a b : Nat) : bitsN k (a ^^^ b) = bitsN k a ^^^ bitsN k b := by
  induction k with
  | zero => rfl
  | succ k ih => simp only [bitsN, ih, bitN_xor]
theorem bitsN_add (j k r : Nat) : bitsN (j + k) r = bitsN j (bitsN k r) := by
  induction j with
  | zero => simp [bitsN]
  | succ j ih => rw [Nat.add_right_comm]; simp only [bitsN, ih]
theorem bitN_even (y : Nat) : bitN (2 * y) = y := by unfold bitN; rw [if_neg (by omega)]; simp
theorem bitsN_pow (k y : Nat) : bitsN k (2 ^ k * y) = y := by
  induction k generalizing y with
  | zero => simp [bitsN]
  | succ k ih =>
    show bitN (bitsN k (2 ^ (k + 1) * y)) = y
    rw [Nat.pow_succ, Nat.mul_assoc, ih, bitN_even]
theorem regN_le (l : List UInt8) : ∀ r, regN r l = bitsN (8 * l.length) (r ^^^ leV l) := by
  induction l with
  | nil => intro r; simp [regN, leV, bitsN]
  | cons x l ih =>
    intro r
    show regN (byteN r x) l = _
    rw [ih, List.length_cons, Nat.mul_succ, bitsN_add, leV, ← Nat.xor_assoc, bitsN_xor 8]
    have h := bitsN_pow 8 (leV l)
    rw [show (2 : Nat) ^ 8 = 256 from rfl] at h
    rw [h]
    rfl
theorem bitN_ne {r : Nat} (h0 : r ≠ 0) (h : r < 4294967296) : bitN r ≠ 0 := by
  unfold bitN
  rcases Nat.mod_two_eq_zero_or_one r with h1 | h1
  · rw [if_neg (by omega)]; simp; omega
  · rw [if_pos h1]
    intro e
    have : r / 2 = 3988292384 := by
      have h2 : (r / 2 ^^^ 3988292384) ^^^ 3988292384 = 0 ^^^ 3988292384 := by rw [e]
      rw [Nat.xor_assoc, Nat.xor_self, Nat.xor_zero, Nat.zero_xor] at h2
      exact h2
    omega
theorem bitsN_ne {r : Nat} (h0 : r ≠ 0) (h : r < 4294967296) : ∀ k, bitsN k r ≠ 0
  | 0 => h0
  | k + 1 => bitN_ne (bitsN_ne h0 h k) (bitsN_lt h k)

/-- Two lists of one length that are others by up to 32 bits side by side have other sums. -/
theorem sum_ne {l t : List UInt8} (hl : t.length = l.length) {f at_ : Nat} (h0 : f ≠ 0) (hf : f < 4294967296) (hat : at_ ≤ 8 * l.length) (hv : leV t = leV l ^^^ (2 ^ at_ * f)) : sumN t ≠ sumN l := by
  have h1 := regN_lt l (r := 4294967295) (by omega)
  have h2 := regN_lt t (r := 4294967295) (by omega)
  unfold sumN
  intro he
  have hr : regN 4294967295 t = regN 4294967295 l := by omega
  rw [regN_le, regN_le, hl, hv, ← Nat.xor_assoc, bitsN_xor] at hr
  have hz : bitsN (8 * l.length) (2 ^ at_ * f) = 0 := by
    have e : bitsN (8 * l.length) (4294967295 ^^^ leV l) ^^^ (bitsN (8 * l.length) (4294967295 ^^^ leV l) ^^^ bitsN (8 * l.length) (2 ^ at_ * f)) = bitsN (8 * l.length) (4294967295 ^^^ leV l) ^^^ bitsN (8 * l.length) (4294967295 ^^^ leV l) := by rw [hr]
    rwa [← Nat.xor_assoc, Nat.xor_self, Nat.zero_xor] at e
  have hs : 8 * l.length = (8 * l.length - at_) + at_ := by omega
  rw [hs, bitsN_add, bitsN_pow] at hz
  exact bitsN_ne h0 hf _ hz

/-! ### the flips, one by one -/
def bitOf (q : Nat) : UInt8 := UInt8.ofNat (2 ^ (q % 8))
def flipL (l : List UInt8) (at_ f : Nat) : Nat → List UInt8
  | 0 => l
  | i + 1 => if f / 2 ^ i % 2 = 0 then flipL l at_ f i else (flipL l at_ f i).modify ((at_ + i) / 8) (· ^^^ bitOf (at_ + i))
theorem flipL_len (l : List UInt8) (at_ f i : Nat) : (flipL l at_ f i).length = l.length := by
  induction i with
  | zero => rfl
  | succ i ih => unfold flipL; split <;> simp [ih]
theorem modify_left (f : UInt8 → UInt8) : ∀ (k : Nat) (l m : List UInt8), k < l.length → (l ++ m).modify k f = l.modify k f ++ m
  | _, [], _, h => by simp at h
  | 0, x :: l, m, _ => by simp
  | k + 1, x :: l, m, h => by simp [modify_left f k l m (by simpa using h)]
theorem modify_set (f : UInt8 → UInt8) (l : List UInt8) (k : Nat) (h : k < l.length) : l.modify k f = l.set k (f l[k]) := by
  apply List.ext_getElem (by simp)
  intro i h1 h2
  rw [List.getElem_modify, List.getElem_set]
  by_cases hk : k = i
  · subst hk; simp
  · simp [hk]
theorem flipL_get {l : List UInt8} {at_ f i k : Nat} (hl : k < l.length) : ∃ x, (flipL l at_ f i)[k]? = some x := ⟨_, List.getElem?_eq_getElem (by rw [flipL_len]; exact hl)⟩
theorem flipL_append (l m : List UInt8) (at_ f i : Nat) (h : ∀ j, j < i → f / 2 ^ j % 2 ≠ 0 → (at_ + j) / 8 < l.length) : flipL (l ++ m) at_ f i = flipL l at_ f i ++ m := by
  induction i with
  | zero => rfl
  | succ i ih =>
    have ih' := ih (fun j hj => h j (by omega))
    unfold flipL
    split
    · exact ih'
    · rename_i hb
      rw [ih', modify_left]
      rw [flipL_len]
      exact h i (by omega) hb
theorem leV_modify : ∀ (l : List UInt8) (k : Nat) (y : UInt8), k < l.length → leV (l.modify k (· ^^^ y)) = leV l ^^^ (2 ^ (8 * k) * y.toNat)
  | [], _, _, h => by simp at h
  | x :: l, 0, y, _ => by
    simp only [List.modify_zero_cons, leV, UInt8.toNat_xor, Nat.mul_zero, Nat.pow_zero, Nat.one_mul]
    rw [Nat.xor_assoc, Nat.xor_assoc, Nat.xor_comm y.toNat]
  | x :: l, k + 1, y, h => by
    have ih := leV_modify l k y (by simpa using h)
    simp only [List.modify_succ_cons, leV]
    rw [ih, Nat.xor_assoc]
    congr 1
    have h256 : ∀ a b : Nat, 256 * (a ^^^ b) = 256 * a ^^^ 256 * b := by
      intro a b
      apply Nat.eq_of_testBit_eq
      intro i
      have e : (256 : Nat) = 2 ^ 8 := rfl
      rw [e, Nat.testBit_two_pow_mul, Nat.testBit_xor, Nat.testBit_xor, Nat.testBit_two_pow_mul, Nat.testBit_two_pow_mul]
      by_cases hi : 8 ≤ i <;> simp [hi]
    rw [h256, Nat.mul_succ, Nat.pow_add, ← Nat.mul_assoc]
    congr 2
    rw [Nat.mul_comm]
theorem bitOf_val (q : Nat) : 2 ^ (8 * (q / 8)) * (bitOf q).toNat = 2 ^ q := by
  have h1 : q % 8 < 8 := Nat.mod_lt _ (by omega)
  have h2 : 2 ^ (q % 8) < 2 ^ 8 := Nat.pow_lt_pow_right (by omega) h1
  unfold bitOf
  rw [UInt8.toNat_ofNat', Nat.mod_eq_of_lt (by simpa using h2), ← Nat.pow_add]
  congr 1
  omega
theorem flipL_val (l : List UInt8) (at_ f i : Nat) (h : ∀ j, j < i → f / 2 ^ j % 2 ≠ 0 → (at_ + j) / 8 < l.length) : leV (flipL l at_ f i) = leV l ^^^ (2 ^ at_ * (f % 2 ^ i)) := by
  induction i with
  | zero => simp [flipL, Nat.mod_one]
  | succ i ih =>
    have ih' := ih (fun j hj => h j (by omega))
    have hmod : f % 2 ^ (i + 1) = f % 2 ^ i + 2 ^ i * (f / 2 ^ i % 2) := by
      rw [Nat.pow_succ, Nat.mod_mul]
    unfold flipL
    split
    · rename_i hb
      rw [ih', hmod, hb]
      simp
    · rename_i hb
      have hk := h i (by omega) hb
      rw [leV_modify _ _ _ (by rw [flipL_len]; exact hk), ih', bitOf_val, Nat.xor_assoc]
      congr 1
      have h1 : f / 2 ^ i % 2 = 1 := by omega
      rw [hmod, h1, Nat.mul_one]
      have hlt : f % 2 ^ i < 2 ^ i := Nat.mod_lt _ (Nat.two_pow_pos i)
      generalize f % 2 ^ i = m at hlt
      apply Nat.eq_of_testBit_eq
      intro j
      have e1 : m + 2 ^ i = 2 ^ i * 1 + m := by omega
      rw [Nat.testBit_xor, Nat.testBit_two_pow_mul, Nat.testBit_two_pow_mul, e1, Nat.testBit_two_pow_mul_add 1 hlt, Nat.testBit_two_pow]
      by_cases hj : at_ ≤ j
      · by_cases hji : j - at_ < i
        · have : ¬ at_ + i = j := by omega
          simp [hj, hji, this]
        · have hz : m.testBit (j - at_) = false := Nat.testBit_lt_two_pow (Nat.lt_of_lt_of_le hlt (Nat.pow_le_pow_right (by omega) (by omega)))
          by_cases hje : at_ + i = j
          · subst hje
            rw [Nat.add_sub_cancel_left] at hz ⊢
            simp [hz]
          · have hnz : ¬ (j - at_ - i = 0) := by omega
            have : Nat.testBit 1 (j - at_ - i) = false := by
              apply Bool.eq_false_iff.2
              intro e
              exact hnz (Nat.testBit_one_eq_true_iff_self_eq_zero.1 e)
            simp [hj, hji, hje, hz, this]
      · have : ¬ at_ + i = j := by omega
        simp [hj, this]
end Go.Proofs.Ytlliffbhkagodaa
