/- alive answers true. -/
import Derived.Test.YtoammbfipinejaaCodeE
namespace Go.Proofs.Ytoammbfipinejaa
open Go.RowKit
set_option linter.unusedVariables false
set_option linter.unusedSimpArgs false

def k0 : List UInt8 := [172, 2, 5, 1, 97, 9]
def k1 : List UInt8 := [5, 1, 97, 9]
def k2 : List UInt8 := [1, 97, 9]
theorem f0 : uV k0 0 = 300 ∧ tkL k0 0 (dec k0).2.1 (dec k0).2.2 = k1 ∧ tkE 0 (dec k0).2.2 = 0 := by decide +kernel
theorem f1 : unturnZ (uV k1 0) = -3 ∧ tkL k1 0 (dec k1).2.1 (dec k1).2.2 = k2 ∧ tkE 0 (dec k1).2.2 = 0 := by decide +kernel
theorem f2 : tV k2 0 1 = [97] ∧ tkL k2 0 ((cnt k2 1).2.1 + (cnt k2 1).1) (tE k2 1) = [9] ∧ tkE 0 (tE k2 1) = 0 := by decide +kernel
theorem f3 : cV [9] 0 8 = 0 ∧ tkL [9] 0 (cnt [9] 8).2.1 (cnt [9] 8).2.2 = [9] ∧ tkE 0 (cnt [9] 8).2.2 = 17 := by decide +kernel
theorem f4 : endE [9] 17 = 17 := by decide +kernel
theorem f5 : encs [300, 0] = [172, 2, 0] := by decide +kernel
theorem f6 : encs ([-3].map turnN) = [5] := by decide +kernel
def tab : ByteArray := ⟨#[97, 98]⟩
def tnil : ByteArray := ⟨#[]⟩
theorem f7 : encTs [tab, tnil] = [2, 97, 98, 0] := by decide +kernel
theorem f8 : turnN (-3) = 5 ∧ unturnZ 5 = -3 := by decide +kernel
theorem Rd.litv (w : World) (xs : List Value) (e : TypeId) (n : Nat) (hs : xs.length = n) (B : Nat) (hB : B = w.heap.size + 1) : Rd (w.alloc (.cells xs.toArray e)) B 1 (some ⟨w.heap.size, 0, none⟩) n xs := by
  subst hB
  exact Rd.litm w xs.toArray e (0, 0) n 1 (by simpa using hs)

set_option maxHeartbeats 1000000 in
set_option maxRecDepth 100000 in
theorem alive_any (w : World) : Calls Try.prog 19 #[] w fun e w' => e = .returned (.bool true) ∧ Below w.heap.size w w' := by
  go_enter Try.func19, Try.ntmps19
  go_wp2_with fail
  refine (newR_any (some ⟨w.heap.size, 0, none⟩) 6 6 k0 _ (by rw [World.size_alloc]; exact RdB.lit w k0 5 (0, 0) 6 rfl) (by omega)).mono ?_
  rintro e w1 ⟨g, rfl, hg, hr, hb⟩
  have hg0 : w.heap.size ≤ g := by simp at hg; omega
  have B1 : Below w.heap.size w w1 := ((Below.refl _ _).alloc (Nat.le_refl _) _).trans (hb.mono (by simp))
  clear hb hg
  go_wp2_with fail
  refine (uint_any g 0 k0 _ hr).mono ?_
  rintro e w2 ⟨rfl, hr2, hg2⟩
  rw [f0.2.1, f0.2.2] at hr2
  rw [f0.1]
  have B2 := B1.grown hg2 B1.size (fun q hq => by cases hq; exact hg0)
  clear hr hg2 B1
  go_wp2_with fail
  refine (int_any g 0 k1 _ hr2).mono ?_
  rintro e w3 ⟨rfl, hr3, hg3⟩
  rw [f1.2.1, f1.2.2] at hr3
  rw [f1.1]
  have B3 := B2.grown hg3 B2.size (fun q hq => by cases hq; exact hg0)
  clear hr2 hg3 B2
  go_wp2_with fail
  refine (text_any g 0 k2 1 _ hr3 (by omega)).mono ?_
  rintro e w4 ⟨rfl, hr4, hg4⟩
  rw [f2.2.1, f2.2.2] at hr4
  rw [f2.1]
  have B4 := B3.grown hg4 B3.size (fun q hq => by cases hq; exact hg0)
  clear hr3 hg4 B3
  go_wp2_with fail
  refine (left_any g 0 [9] _ hr4).mono ?_
  rintro e w4 ⟨rfl, rfl⟩
  go_wp2_with fail
  refine (err_any g 0 [9] _ hr4).mono ?_
  rintro e w4 ⟨rfl, rfl⟩
  go_wp2_with fail
  refine (countM_any g 0 [9] 8 _ hr4 (by omega)).mono ?_
  rintro e w5 ⟨rfl, hr5, hg5⟩
  rw [f3.2.1, f3.2.2] at hr5
  rw [f3.1]
  have B5 := B4.grown hg5 B4.size (fun q hq => by cases hq; exact hg0)
  clear hr4 hg5 B4
  go_wp2_with fail
  refine (err_any g 17 [9] _ hr5).mono ?_
  rintro e w5 ⟨rfl, rfl⟩
  go_wp2_with fail
  refine (end_any g 17 [9] _ hr5).mono ?_
  rintro e w6 ⟨rfl, hr6, hg6⟩
  rw [f4] at hr6 ⊢
  have B6 := B5.grown hg6 B5.size (fun q hq => by cases hq; exact hg0)
  clear hr5 hg6 B5 hr6
  go_wp2_with fail
  refine (uints_any (some ⟨w6.heap.size, 0, none⟩) 2 2 [300, 0] _ (Rd.litv w6 ([300, 0].map u64v) 48 2 rfl _ (by simp)) (by omega) (by simp)).mono ?_
  rintro e w7 ⟨v7, rfl, own7, hb7⟩
  rw [f5] at own7
  have B7 := (B6.alloc B6.size _).trans (hb7.mono (by have := B6.size; simp; omega))
  obtain ⟨A7, c7, rfl, hc7, hm7, r7⟩ := own7.form
  clear own7 hb7 B6
  go_wp2_with fail
  have r7' := Rd.alloc' r7 (.cells ([172, 2, 0].map bv).toArray 5)
  refine (sameBytes_any A7 (some ⟨w7.heap.size, 0, none⟩) 3 c7 3 3 [172, 2, 0] [172, 2, 0] _ r7' (by rw [World.size_alloc]; exact RdB.lit w7 [172, 2, 0] 5 (0, 0) 3 rfl) (by simp [maxLen])).mono ?_
  rintro e w8 ⟨rfl, nq, rfl⟩
  rw [decide_eq_true rfl]
  have B8 := below_drewN (B7.alloc B7.size (.cells ([172, 2, 0].map bv).toArray 5)) nq
  clear r7 r7' B7
  generalize (w7.alloc (.cells ([172, 2, 0].map bv).toArray 5)).drewN nq = w8 at B8 ⊢
  go_wp2_with fail
  refine (ints_any (some ⟨w8.heap.size, 0, none⟩) 1 1 [-3] _ (Rd.litv w8 ([-3].map i64v) 2 1 rfl _ (by simp)) (by omega) (by simp)).mono ?_
  rintro e w9 ⟨v9, rfl, own9, hb9⟩
  rw [f6] at own9
  have B9 := (B8.alloc B8.size _).trans (hb9.mono (by have := B8.size; simp; omega))
  obtain ⟨A9, c9, rfl, hc9, hm9, r9⟩ := own9.form
  clear own9 hb9 B8
  go_wp2_with fail
  have r9' := Rd.alloc' r9 (.cells ([5].map bv).toArray 5)
  refine (sameBytes_any A9 (some ⟨w9.heap.size, 0, none⟩) 1 c9 1 1 [5] [5] _ r9' (by rw [World.size_alloc]; exact RdB.lit w9 [5] 5 (0, 0) 1 rfl) (by simp [maxLen])).mono ?_
  rintro e w10 ⟨rfl, nq2, rfl⟩
  rw [decide_eq_true rfl]
  have B10 := below_drewN (B9.alloc B9.size (.cells ([5].map bv).toArray 5)) nq2
  clear r9 r9' B9
  generalize (w9.alloc (.cells ([5].map bv).toArray 5)).drewN nq2 = w10 at B10 ⊢
  go_wp2_with fail
  refine (texts_any (some ⟨w10.heap.size, 0, none⟩) 2 2 0 [tab, tnil] _ (Rd.litv w10 ([tab, tnil].map strv) 9 2 rfl _ (by simp)) (by omega) (by intro x hx; simp at hx; rcases hx with rfl | rfl <;> decide)).mono ?_
  rintro e w11 ⟨v11, rfl, own11, hb11⟩
  rw [f7] at own11
  have B11 := (B10.alloc B10.size _).trans (hb11.mono (by have := B10.size; simp; omega))
  obtain ⟨A11, c11, rfl, hc11, hm11, r11⟩ := own11.form
  clear own11 hb11 B10
  go_wp2_with fail
  have r11' := Rd.alloc' r11 (.cells ([2, 97, 98, 0].map bv).toArray 5)
  refine (sameBytes_any A11 (some ⟨w11.heap.size, 0, none⟩) 4 c11 4 4 [2, 97, 98, 0] [2, 97, 98, 0] _ r11' (by rw [World.size_alloc]; exact RdB.lit w11 [2, 97, 98, 0] 5 (0, 0) 4 rfl) (by simp [maxLen])).mono ?_
  rintro e w12 ⟨rfl, nq3, rfl⟩
  rw [decide_eq_true rfl]
  have B12 := below_drewN (B11.alloc B11.size (.cells ([2, 97, 98, 0].map bv).toArray 5)) nq3
  clear r11 r11' B11
  generalize (w11.alloc (.cells ([2, 97, 98, 0].map bv).toArray 5)).drewN nq3 = w12 at B12 ⊢
  go_wp2_with fail
  refine (turn_any (-3) _ (by omega) (by omega)).mono ?_
  rintro e w13 ⟨rfl, rfl⟩
  rw [f8.1]
  go_wp2_with fail
  refine (unturn_any 5 _ (by omega)).mono ?_
  rintro e w13 ⟨rfl, rfl⟩
  rw [f8.2]
  go_wp2_with fail
  go_ret
  exact ⟨rfl, B12⟩
end Go.Proofs.Ytoammbfipinejaa
