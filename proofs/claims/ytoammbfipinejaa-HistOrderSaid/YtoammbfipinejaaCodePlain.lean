/- Numbers as bytes, and back: plain arithmetic. -/
import Derived.Laws.BitsAllLaws
import Derived.WalkKit
namespace Go.Proofs.Ytoammbfipinejaa

/-- What so many bytes more can hold: 2 * 128^f. -/
def bnd : Nat → Nat
  | 0 => 2
  | f + 1 => 128 * bnd f
def encF : Nat → Nat → List UInt8
  | 0, u => [UInt8.ofNat u]
  | f + 1, u => if u < 128 then [UInt8.ofNat u] else UInt8.ofNat (128 + u % 128) :: encF f (u / 128)
/-- The bytes of a number. -/
def enc (u : Nat) : List UInt8 := encF 9 u
theorem bnd9 : bnd 9 = 18446744073709551616 := rfl
theorem bnd_pos : ∀ f, 2 ≤ bnd f
  | 0 => Nat.le_refl _
  | f + 1 => by have := bnd_pos f; simp only [bnd]; omega
theorem encF_small {f u : Nat} (h : u < 128) : encF f u = [UInt8.ofNat u] := by
  cases f with
  | zero => rfl
  | succ f => simp [encF, h]
theorem encF_big {f u : Nat} (h : ¬ u < 128) : encF (f + 1) u = UInt8.ofNat (128 + u % 128) :: encF f (u / 128) := by simp [encF, h]
theorem encF_len : ∀ (f u : Nat), 1 ≤ (encF f u).length ∧ (encF f u).length ≤ f + 1
  | 0, u => by simp [encF]
  | f + 1, u => by
    by_cases h : u < 128
    · rw [encF_small h]; simp
    · rw [encF_big h]
      have := encF_len f (u / 128)
      simp; omega

/-! ### reading -/
/-- From place i on, so much read: the number, its size, the fault (10: not in form, 15: at its end). -/
def decF (i acc : Nat) : List UInt8 → Nat × Nat × Nat
  | [] => (0, 0, 15)
  | c :: r => if (c.toNat = 0 ∧ 0 < i) ∨ (1 < c.toNat ∧ i = 9) then (0, 0, 10) else if c.toNat < 128 then (acc + c.toNat * 128 ^ i, i + 1, 0) else decF (i + 1) (acc + c.toNat % 128 * 128 ^ i) r
def dec (l : List UInt8) : Nat × Nat × Nat := decF 0 0 l

theorem ofNat_toNat {u : Nat} (h : u < 256) : (UInt8.ofNat u).toNat = u := by rw [UInt8.toNat_ofNat']; exact Nat.mod_eq_of_lt h
/-- What is written is read, whatever follows. -/
theorem dec_encF : ∀ (f i acc u : Nat) (r : List UInt8), i + f = 9 → u < bnd f → (0 < i → 0 < u) → decF i acc (encF f u ++ r) = (acc + u * 128 ^ i, i + (encF f u).length, 0)
  | 0, i, acc, u, r, hi, hu, h0 => by
    have hu2 : u < 2 := hu
    simp only [encF, List.cons_append, List.nil_append, decF, List.length_cons, List.length_nil]
    rw [ofNat_toNat (by omega), if_neg (by omega), if_pos (by omega)]
  | f + 1, i, acc, u, r, hi, hu, h0 => by
    by_cases h : u < 128
    · rw [encF_small h]
      simp only [List.cons_append, List.nil_append, decF, List.length_cons, List.length_nil]
      rw [ofNat_toNat (by omega), if_neg (by omega), if_pos (by omega)]
    · rw [encF_big h]
      simp only [List.cons_append, decF, List.length_cons]
      rw [ofNat_toNat (by omega), if_neg (by omega), if_neg (by omega), dec_encF f (i + 1) _ (u / 128) r (by omega) (by simp only [bnd] at hu; omega) (by omega)]
      have e1 : (128 + u % 128) % 128 = u % 128 := by omega
      rw [e1, Nat.add_assoc acc, Nat.pow_succ]
      have e2 : u % 128 * 128 ^ i + u / 128 * (128 ^ i * 128) = u * 128 ^ i := by
        rw [Nat.mul_comm (128 ^ i) 128, ← Nat.mul_assoc, ← Nat.add_mul, Nat.mod_add_div' u 128]
      rw [e2]
      simp only [Prod.mk.injEq, and_true, true_and]
      omega
theorem dec_enc {u : Nat} (h : u < 18446744073709551616) (r : List UInt8) : dec (enc u ++ r) = (u, (enc u).length, 0) := by
  have := dec_encF 9 0 0 u r rfl (by rw [bnd9]; exact h) (by omega)
  simpa [dec, enc] using this

/-- What is read is just what is written of it. -/
theorem enc_of_dec : ∀ (l : List UInt8) (i acc v s : Nat), i ≤ 9 → decF i acc l = (v, s, 0) →
    ∃ u, v = acc + u * 128 ^ i ∧ i < s ∧ s ≤ i + l.length ∧ s ≤ 10 ∧ encF (9 - i) u = l.take (s - i) ∧ u < bnd (9 - i) ∧ (0 < i → 0 < u)
  | [], i, acc, v, s, hi, h => by simp [decF] at h
  | c :: r, i, acc, v, s, hi, h => by
    have hc := c.toNat_lt
    simp only [decF] at h
    by_cases h1 : (c.toNat = 0 ∧ 0 < i) ∨ (1 < c.toNat ∧ i = 9)
    · rw [if_pos h1] at h; simp at h
    · rw [if_neg h1] at h
      by_cases h2 : c.toNat < 128
      · rw [if_pos h2] at h
        simp only [Prod.mk.injEq, and_true] at h
        obtain ⟨rfl, rfl⟩ := h
        refine ⟨c.toNat, rfl, by omega, by simp, by omega, ?_, ?_, by omega⟩
        · rw [encF_small h2]; simp
        · rcases Nat.eq_or_lt_of_le hi with h9 | h9
          · subst h9; simp only [Nat.sub_self, bnd]; omega
          · obtain ⟨q, hq⟩ : ∃ q, 9 - i = q + 1 := ⟨9 - i - 1, by omega⟩
            rw [hq]; have := bnd_pos q; simp only [bnd]; omega
      · rw [if_neg h2] at h
        have h9 : i ≠ 9 := by omega
        obtain ⟨u, hv, h3, h4, h5, h6, h7, h8⟩ := enc_of_dec r (i + 1) _ v s (by omega) h
        obtain ⟨q, hq⟩ : ∃ q, 9 - i = q + 1 := ⟨9 - i - 1, by omega⟩
        have hq2 : 9 - (i + 1) = q := by omega
        rw [hq2] at h6 h7
        have hu := h8 (by omega)
        refine ⟨c.toNat % 128 + 128 * u, ?_, by omega, by simp only [List.length_cons]; omega, h5, ?_, ?_, by omega⟩
        · rw [hv, Nat.add_assoc]
          congr 1
          rw [Nat.add_mul, Nat.pow_succ, Nat.mul_comm 128 u, Nat.mul_assoc, Nat.mul_comm 128]
        · rw [hq, encF_big (by omega)]
          have e1 : (c.toNat % 128 + 128 * u) / 128 = u := by omega
          have e2 : 128 + (c.toNat % 128 + 128 * u) % 128 = c.toNat := by omega
          rw [e1, e2, h6]
          have e3 : s - i = (s - (i + 1)) + 1 := by omega
          rw [e3, List.take_succ_cons]
          congr 1
          simp
        · rw [hq]; simp only [bnd]; omega
/-- A part of what is written, cut off ahead of its end, is read as such. -/
theorem dec_cut : ∀ (f i acc u k : Nat), i + f = 9 → u < bnd f → (0 < i → 0 < u) → k < (encF f u).length → decF i acc ((encF f u).take k) = (0, 0, 15)
  | f, i, acc, u, 0, _, _, _, _ => by simp [decF]
  | 0, i, acc, u, k + 1, _, _, _, hk => by simp [encF] at hk
  | f + 1, i, acc, u, k + 1, hi, hu, h0, hk => by
    by_cases h : u < 128
    · rw [encF_small h] at hk; simp at hk
    · rw [encF_big h] at hk ⊢
      simp only [List.take_succ_cons, decF]
      rw [ofNat_toNat (by omega), if_neg (by omega), if_neg (by omega)]
      exact dec_cut f (i + 1) _ (u / 128) k (by omega) (by simp only [bnd] at hu; omega) (by omega) (by simpa using hk)
theorem dec_bounds : ∀ (l : List UInt8) (i acc v s e : Nat), i ≤ 9 → acc < 128 ^ i → decF i acc l = (v, s, e) → v < 18446744073709551616 ∧ s ≤ i + l.length ∧ (e = 0 ∨ e = 10 ∨ e = 15) ∧ (e ≠ 0 → v = 0 ∧ s = 0) ∧ s ≤ 10
  | [], i, acc, v, s, e, hi, ha, h => by
    simp only [decF, Prod.mk.injEq] at h
    obtain ⟨rfl, rfl, rfl⟩ := h
    simp
  | c :: r, i, acc, v, s, e, hi, ha, h => by
    have hc := c.toNat_lt
    simp only [decF] at h
    by_cases h1 : (c.toNat = 0 ∧ 0 < i) ∨ (1 < c.toNat ∧ i = 9)
    · rw [if_pos h1] at h
      simp only [Prod.mk.injEq] at h
      obtain ⟨rfl, rfl, rfl⟩ := h
      simp
    · rw [if_neg h1] at h
      by_cases h2 : c.toNat < 128
      · rw [if_pos h2] at h
        simp only [Prod.mk.injEq] at h
        obtain ⟨rfl, rfl, rfl⟩ := h
        refine ⟨?_, by simp, by simp, by simp, by omega⟩
        have hp : 128 ^ i ≤ 128 ^ 9 := Nat.pow_le_pow_right (by omega) hi
        rcases Nat.eq_or_lt_of_le hi with h9 | h9
        · subst h9
          have : c.toNat ≤ 1 := by omega
          have h3 : c.toNat * 128 ^ 9 ≤ 1 * 128 ^ 9 := Nat.mul_le_mul_right _ this
          have h4 : (128 : Nat) ^ 9 = 9223372036854775808 := rfl
          omega
        · have hp : 128 ^ i ≤ 128 ^ 8 := Nat.pow_le_pow_right (by omega) (by omega)
          have h3 : c.toNat * 128 ^ i ≤ 127 * 128 ^ 8 := Nat.mul_le_mul (by omega) hp
          have h4 : (128 : Nat) ^ 8 = 72057594037927936 := rfl
          omega
      · rw [if_neg h2] at h
        have h9 : i ≠ 9 := by omega
        have ha' : acc + c.toNat % 128 * 128 ^ i < 128 ^ (i + 1) := by
          rw [Nat.pow_succ]
          have h3 : c.toNat % 128 * 128 ^ i ≤ 127 * 128 ^ i := Nat.mul_le_mul_right _ (by omega)
          omega
        have := dec_bounds r (i + 1) _ v s e (by omega) ha' h
        simp only [List.length_cons]
        omega
end Go.Proofs.Ytoammbfipinejaa
