/- Plain laws of a sample's interval. -/
import Derived.Test.YtgidaifoiljgoaaClkB
namespace Go.Proofs.Ytgidaifoiljgoaa
set_option linter.unusedSimpArgs false
set_option linter.unusedVariables false
open Go.RowKit
theorem ratN_up (a b c : Nat) (hc : 0 < c) : ratN a b c true = (a * b + (c - 1)) / c := by
  unfold ratN
  have hd := Nat.div_add_mod (a * b) c
  have hm := Nat.mod_lt (a * b) hc
  generalize hq : a * b / c = q at *
  generalize hr : a * b % c = r at *
  split
  · rename_i h
    symm
    rw [Nat.div_eq_iff hc]
    have : c * (q + 1) = c * q + c := Nat.mul_succ c q
    have : (q + 1) * c = c * (q + 1) := Nat.mul_comm _ _
    omega
  · rename_i h
    have h0 : r = 0 := by simpa using h
    symm
    rw [Nat.div_eq_iff hc]
    have : q * c = c * q := Nat.mul_comm _ _
    omega
theorem ratN_mono (a a' b c : Nat) (up : Bool) (hc : 0 < c) (h : a ≤ a') : ratN a b c up ≤ ratN a' b c up := by
  have hm : a * b ≤ a' * b := Nat.mul_le_mul_right _ h
  cases up with
  | true => rw [ratN_up _ _ _ hc, ratN_up _ _ _ hc]; exact Nat.div_le_div_right (by omega)
  | false => unfold ratN; simp; exact Nat.div_le_div_right hm
theorem lowZ_mono (x y r : Int) (hr : okRate r = true) (h : x ≤ y) : lowZ x r ≤ lowZ y r := by
  have hr := of_decide_eq_true hr
  unfold lowZ
  split
  · rw [if_pos (by omega)]
    have := ratN_mono (x - 1).toNat (y - 1).toNat 1000000 (1000000 + r).toNat true (by omega) (by omega)
    omega
  · split
    · omega
    · have := ratN_mono (1 - y).toNat (1 - x).toNat 1000000 (1000000 - r).toNat false (by omega) (by omega)
      omega
theorem atR_out {s : Smp} {a rho : Int} (h : (atR s a rho).2 = 0) : okS s = true ∧ isT a = true ∧ okRate rho = true ∧ atLo s a rho ≤ atHi s a rho ∧ (atR s a rho).1 = (atLo s a rho, atHi s a rho) := by
  unfold atR at h ⊢
  by_cases h1 : okS s = false
  · rw [if_pos h1] at h; cases h
  · rw [if_neg h1] at h ⊢
    by_cases h2 : isT a = false ∨ okRate rho = false
    · rw [if_pos h2] at h; cases h
    · rw [if_neg h2] at h ⊢
      by_cases h3 : atHi s a rho < atLo s a rho
      · rw [if_pos h3] at h; cases h
      · rw [if_neg h3]
        simp at h1 h2
        exact ⟨h1, h2.1, h2.2, by omega, rfl⟩
theorem rises_plain (s : Smp) (a b rho : Int) (ha : (atR s a rho).2 = 0) (hb : (atR s b rho).2 = 0) (h : a ≤ b) : (atR s a rho).1.1 ≤ (atR s b rho).1.1 ∧ (atR s a rho).1.2 ≤ (atR s b rho).1.2 := by
  obtain ⟨_, _, hr, _, e1⟩ := atR_out ha
  obtain ⟨_, _, _, _, e2⟩ := atR_out hb
  rw [e1, e2]
  unfold atLo atHi highZ
  have h1 := lowZ_mono (a - s.got) (b - s.got) rho hr (by omega)
  have h2 := lowZ_mono (-(b - s.sent)) (-(a - s.sent)) rho hr (by omega)
  constructor <;> omega
end Go.Proofs.Ytgidaifoiljgoaa
