/- ClockWidth, by conditions. -/
import Derived.Test.YtgidaifoiljgoaaKi
namespace Go.Proofs.Ytgidaifoiljgoaa
set_option linter.unusedSimpArgs false
set_option linter.unusedVariables false
open Go.RowKit
set_option maxRecDepth 100000
section
variable {P : Program} {L : List AObj} {ty n : Nat}
def mx2 (x y : Int) : Int := if y > x then y else x
theorem max4 {k : IntKind} {x y z u : Int} {a b c d : Operand} {ts : Array TypeId} : Does P (.call { callee := .builtin .max, args := #[a, b, c, d], argTypes := ts }) ty L n [.d (.v (.int k x)), .d (.v (.int k y)), .d (.v (.int k z)), .d (.v (.int k u))] e0 (.d (.v (.int k (mx2 (mx2 (mx2 x y) z) u)))) :=
  does_val fun o w F ρ ev ho _ hx => by
    have hops : Op.operands (.call { callee := .builtin .max, args := #[a, b, c, d], argTypes := ts }) = #[a, b, c, d] := by simp [Op.operands, Call.operands]
    rw [hops] at hx
    have hx : RAs w F ρ [.d (.v (.int k x)), .d (.v (.int k y)), .d (.v (.int k z)), .d (.v (.int k u))] [ev a, ev b, ev c, ev d] := by simpa using hx
    cases hx with | cons h1 hx =>
    cases hx with | cons h2 hx =>
    cases hx with | cons h3 hx =>
    cases hx with | cons h4 hx =>
    have h1 := h1.v_out
    have h2 := h2.v_out
    have h3 := h3.v_out
    have h4 := h4.v_out
    exact ⟨_, by simp [execOp, ho, resolve, invoke, builtin, h1, h2, h3, h4, Builtin.max_, Builtin.max2, mx2], .d (.v _)⟩
end
theorem slack_sat (a r : Int) (ha : farA a = true) (hr : okRate r = true) : Sat Try.prog 31 [iA a, iA r] [] (.tup [iA (slackZ a r), iA 0]) [] :=
  .of_calls (by repeat constructor) (by repeat constructor) fun w => slack_ok a r w ha hr
/-! ### plain -/
theorem ratN_floor (a b c : Nat) (hc : 0 < c) : ratN a b c false * c ≤ a * b := by
  unfold ratN
  simp
  exact Nat.div_mul_le_self _ _
theorem ratN_ceil (a b c : Nat) (hc : 0 < c) : a * b ≤ ratN a b c true * c := by
  rw [ratN_up _ _ _ hc]
  have h := Nat.div_add_mod (a * b + (c - 1)) c
  have hm := Nat.mod_lt (a * b + (c - 1)) hc
  rw [Nat.mul_comm ((a * b + (c - 1)) / c) c]
  omega
theorem slack_ge (far r : Int) (hr : okRate r = true) (h0 : 0 ≤ far) : far * r ≤ slackZ far r * (1000000 - r) := by
  have hr := of_decide_eq_true hr
  unfold slackZ
  have h := ratN_ceil far.toNat r.toNat (1000000 - r).toNat (by omega)
  have h' : ((far.toNat * r.toNat : Nat) : Int) ≤ ((ratN far.toNat r.toNat (1000000 - r).toNat true * (1000000 - r).toNat : Nat) : Int) := Int.ofNat_le.2 h
  rw [Int.natCast_mul, Int.natCast_mul, Int.toNat_of_nonneg h0, Int.toNat_of_nonneg hr.1, Int.toNat_of_nonneg (by omega)] at h'
  exact h'
theorem low_gap (v far r : Int) (hr : okRate r = true) (h1 : v ≤ far) (h2 : -v ≤ far) : v - lowZ v r ≤ slackZ far r + 2 := by
  have hs := slack_ge far r hr (by omega)
  have hr' := of_decide_eq_true hr
  have hS : 0 ≤ slackZ far r := by unfold slackZ; omega
  generalize slackZ far r = S at *
  have hSr : 0 ≤ S * r := Int.mul_nonneg hS hr'.1
  have e1 : S * (1000000 - r) = S * 1000000 - S * r := Int.mul_sub ..
  unfold lowZ
  split
  · rename_i hv
    have h := ratN_ceil (v - 1).toNat 1000000 (1000000 + r).toNat (by omega)
    have h' : (((v - 1).toNat * 1000000 : Nat) : Int) ≤ ((ratN (v - 1).toNat 1000000 (1000000 + r).toNat true * (1000000 + r).toNat : Nat) : Int) := Int.ofNat_le.2 h
    rw [Int.natCast_mul, Int.natCast_mul, Int.toNat_of_nonneg (by omega), Int.toNat_of_nonneg (a := 1000000 + r) (by omega)] at h'
    generalize (ratN (v - 1).toNat 1000000 (1000000 + r).toNat true : Int) = q at *
    have hq : v - q ≤ S + 2 := by
      refine Int.not_lt.1 fun hlt => ?_
      have hk : 0 ≤ (v - q - S - 3) * (1000000 + r) := Int.mul_nonneg (by omega) (by omega)
      have hvr : v * r ≤ far * r := Int.mul_le_mul_of_nonneg_right h1 hr'.1
      have e2 : (v - q - S - 3) * r = v * r - q * r - S * r - 3 * r := by rw [Int.sub_mul, Int.sub_mul, Int.sub_mul]
      rw [Int.mul_add] at hk
      have e3 : q * (1000000 + r) = q * 1000000 + q * r := Int.mul_add ..
      omega
    omega
  · rename_i hv
    have h := ratN_floor (1 - v).toNat 1000000 (1000000 - r).toNat (by omega)
    have h' : ((ratN (1 - v).toNat 1000000 (1000000 - r).toNat false * (1000000 - r).toNat : Nat) : Int) ≤ (((1 - v).toNat * 1000000 : Nat) : Int) := Int.ofNat_le.2 h
    rw [Int.natCast_mul, Int.natCast_mul, Int.toNat_of_nonneg (a := 1 - v) (by omega), Int.toNat_of_nonneg (a := 1000000 - r) (by omega)] at h'
    generalize (ratN (1 - v).toNat 1000000 (1000000 - r).toNat false : Int) = q at *
    refine Int.not_lt.1 fun hlt => ?_
    have hk : 0 ≤ (v + q - S - 3) * (1000000 - r) := Int.mul_nonneg (by omega) (by omega)
    have hvr : -v * r ≤ far * r := Int.mul_le_mul_of_nonneg_right h2 hr'.1
    have e0 : -v * r = -(v * r) := Int.neg_mul ..
    have e2 : (v + q - S - 3) * r = v * r + q * r - S * r - 3 * r := by rw [Int.sub_mul, Int.sub_mul, Int.add_mul]
    rw [Int.mul_sub] at hk
    have e3 : q * (1000000 - r) = q * 1000000 - q * r := Int.mul_sub ..
    omega
theorem meetL_le (a : Int × Int) (gs : List (Int × Int)) {x : Int × Int} (h : x ∈ gs) : x.1 ≤ (meetL a gs).1 ∧ (meetL a gs).2 ≤ x.2 := by
  have base : ∀ (gs : List (Int × Int)) (a : Int × Int), a.1 ≤ (meetL a gs).1 ∧ (meetL a gs).2 ≤ a.2 := by
    intro gs
    induction gs with
    | nil => intro a; exact ⟨Int.le_refl _, Int.le_refl _⟩
    | cons y r ih =>
      intro a
      have := ih (max a.1 y.1, min a.2 y.2)
      unfold meetL at this ⊢
      rw [List.foldl_cons]
      simp only at this
      omega
  induction gs generalizing a with
  | nil => simp at h
  | cons y r ih =>
    have e : meetL a (y :: r) = meetL (max a.1 y.1, min a.2 y.2) r := rfl
    rw [e]
    rcases List.mem_cons.1 h with q | q
    · subst q
      have := base r (max a.1 x.1, min a.2 x.2)
      simp only at this
      omega
    · exact ih _ q
def farZ (x : Smp) (stamp : Int) : Int := mx2 (mx2 (mx2 (stamp - x.got) (x.got - stamp)) (stamp - x.sent)) (x.sent - stamp)
theorem far_out (x : Smp) (stamp : Int) : stamp - x.got ≤ farZ x stamp ∧ x.got - stamp ≤ farZ x stamp ∧ stamp - x.sent ≤ farZ x stamp ∧ x.sent - stamp ≤ farZ x stamp ∧ ∀ b, stamp - x.got ≤ b → x.got - stamp ≤ b → stamp - x.sent ≤ b → x.sent - stamp ≤ b → farZ x stamp ≤ b := by
  unfold farZ mx2
  refine ⟨?_, ?_, ?_, ?_, fun b _ _ _ _ => ?_⟩ <;> (split <;> split <;> split <;> omega)
theorem width_plain (x : Smp) (stamp rho : Int) (h : (atR x stamp rho).2 = 0) : (atR x stamp rho).1.2 - (atR x stamp rho).1.1 ≤ tripZ x + 2 * slackZ (farZ x stamp) rho + 4 := by
  obtain ⟨h1, _, hr, _, e⟩ := atR_out h
  rw [e]
  unfold tripZ atLo atHi highZ
  rw [if_pos h1]
  have hf := far_out x stamp
  have g1 := low_gap (stamp - x.got) (farZ x stamp) rho hr (by omega) (by omega)
  have g2 := low_gap (-(stamp - x.sent)) (farZ x stamp) rho hr (by omega) (by omega)
  omega
theorem width_in {s : CSt} {x : Smp} {stamp : Int} (h : (atC s stamp).2 = 0) (hx : x ∈ s.list) : (atR x stamp s.rho).2 = 0 ∧ withB (atC s stamp).1 (atR x stamp s.rho).1 = true ∧ (atC s stamp).1.2 - (atC s stamp).1.1 ≤ tripZ x + 2 * slackZ (farZ x stamp) s.rho + 4 := by
  obtain ⟨_, _, hf, e⟩ := atC_zero h
  have h0 : (atR x stamp s.rho).2 = 0 := by have := List.find?_eq_none.1 hf x hx; simpa using this
  rw [e] at h ⊢
  obtain ⟨_, h2, e2⟩ := meetR_ok h
  have hm := meetL_le allG (s.list.map fun x => (atR x stamp s.rho).1) (List.mem_map.2 ⟨x, hx, rfl⟩)
  have hw := width_plain x stamp s.rho h0
  rw [e2]
  refine ⟨h0, ?_, by omega⟩
  unfold withB
  rw [h2]
  simp
  exact hm
end Go.Proofs.Ytgidaifoiljgoaa
