/- CrcBack: what is sealed is opened as it was. -/
import Derived.Test.YtlliffbhkagodaaCrcH
namespace Go.Proofs.Ytlliffbhkagodaa
open Go.ChangeShapes Go.WideShapes Go.ChangeAt Go.RowKit Go.Deep
set_option linter.unusedVariables false

def sealL (l : List UInt8) : List UInt8 := l ++ le4 (sumN l)
def sealK : Nat → List UInt8 → List UInt8
  | 0, l => l
  | k + 1, l => sealL (sealK k l)
theorem sealL_len (l : List UInt8) : (sealL l).length = l.length + 4 := by simp [sealL, le4]
theorem sealK_len (k : Nat) (l : List UInt8) : (sealK k l).length = l.length + 4 * k := by
  induction k with
  | zero => rfl
  | succ k ih => rw [sealK, sealL_len, ih]; omega
theorem open_sealL (l : List UInt8) : openOk (sealL l) = true := by
  unfold openOk
  rw [sealL_len, Nat.add_sub_cancel, sealL, List.take_left, List.drop_left]
  simp
theorem openErr_sealL (l : List UInt8) : openErr (sealL l) = 0 := by
  unfold openErr
  rw [open_sealL, sealL_len, if_neg (by omega), if_pos rfl]
theorem openBody_sealL (l : List UInt8) : openBody (sealL l) = l := by
  unfold openBody
  rw [open_sealL, if_pos rfl, sealL_len, Nat.add_sub_cancel, sealL, List.take_left]

set_option maxHeartbeats 400000 in
theorem back_walk (A : Option Addr) (n c : Nat) (t : Int) (l : List UInt8) (w : World) (hr : RdB w w.heap.size A n l) (hc : n ≤ c) (hcm : c ≤ 140737488351232) (ht : -9223372036854775808 ≤ t ∧ t ≤ 9223372036854775807) :
    Calls Try.prog 4 #[.slice A n c, .int .i64 t] w fun e w' => e = .returned (.bool true) ∧ Below w.heap.size w w' := by
  have hlen := RdB.len hr
  obtain ⟨ht1, ht2⟩ := ht
  by_cases h1 : 2000 < n
  · go_enter Try.func4, Try.ntmps4
    go_wp2_with fail
    refine (alive_any _).mono ?_
    rintro e w1 ⟨rfl, hb1⟩
    go_wp2_with fail
    go_ret
    exact ⟨rfl, hb1⟩
  by_cases h2 : t < 0
  · go_enter Try.func4, Try.ntmps4
    go_wp2_with fail
    refine (alive_any _).mono ?_
    rintro e w1 ⟨rfl, hb1⟩
    go_wp2_with fail
    go_ret
    exact ⟨rfl, hb1⟩
  by_cases h3 : 10 < t
  · go_enter Try.func4, Try.ntmps4
    go_wp2_with fail
    refine (alive_any _).mono ?_
    rintro e w1 ⟨rfl, hb1⟩
    go_wp2_with fail
    go_ret
    exact ⟨rfl, hb1⟩
  obtain ⟨T, rfl⟩ := Int.eq_ofNat_of_zero_le (show 0 ≤ t by omega)
  go_enter Try.func4, Try.ntmps4
  go_wp2_with fail
  refine (alive_any _).mono ?_
  rintro e w1 ⟨rfl, hb1⟩
  have r1 := Rd.next hr hb1
  clear hr
  go_wp2_with fail
  refine (copyBytes_any A n c l _ r1 (by omega)).mono ?_
  rintro e w2 ⟨v2, rfl, own2, hb2⟩
  have r2 := Rd.next r1 hb2
  have B2 := hb1.trans (hb2.mono hb1.size)
  obtain ⟨A2, c2, rfl, hc2, hm2, rr2⟩ := own2.form
  clear own2 r1 hb1 hb2
  go_wp2_with fail
  go_loopw [5, 6] (fun s i wr => ∃ k : Nat, k ≤ T ∧ i = .int .i64 k ∧ (∃ A c, s = .slice A (n + 4 * k) c ∧ n + 4 * k ≤ c ∧ c ≤ maxLen ∧ RdB wr wr.heap.size A (n + 4 * k) (sealK k l)) ∧ Below w.heap.size w wr ∧ Below w2.heap.size w2 wr) (fun _ i _ => T - (intOf i).toNat)
  case atStart => exact ⟨0, Nat.zero_le _, rfl, ⟨A2, c2, rfl, hc2, hm2, rr2⟩, B2, Below.refl _ _⟩
  case round =>
    obtain ⟨k, hk, rfl, ⟨A3, c3, rfl, hc3, hm3, r3⟩, B3, D3⟩ := hrel
    by_cases hkT : k < T
    · go_wp2_with fail
      refine (seal_any _ 1 1 [sealK k l] _ (RdP.one (c := c3) _ r3 hc3 (by omega)) (by omega) (by omega) (by simp [sealK_len]; omega)).mono ?_
      rintro e w4 ⟨v4, rfl, own4, hb4⟩
      obtain ⟨A4, c4, rfl, hc4, hm4, r4⟩ := own4.form
      clear own4
      have he : ([sealK k l] : List (List UInt8)).flatten = sealK k l := by simp
      have hn4 : ([sealK k l] : List (List UInt8)).flatten.length + 4 = n + 4 * (k + 1) := by rw [he, sealK_len]; omega
      rw [hn4] at r4 hc4 ⊢
      rw [he] at r4
      clear he hn4
      go_wp2_with fail
      go_roundw
      case rel => exact ⟨k + 1, by omega, by go_num, ⟨A4, c4, rfl, hc4, hm4, r4⟩, (B3.alloc B3.size _).trans (hb4.mono (by have := B3.size; simp; omega)), (D3.alloc D3.size _).trans (hb4.mono (by have := D3.size; simp; omega))⟩
      case measure => simp [intOf]; omega
    · obtain rfl : k = T := by omega
      go_wp2_with fail
      go_loopw [4, 5, 7, 8, 9] (fun _ s i _ _ wr => ∃ j : Nat, j ≤ k ∧ i = .int .i64 (k - j : Nat) ∧ (∃ A c, s = .slice A (n + 4 * j) c ∧ n + 4 * j ≤ c ∧ c ≤ maxLen ∧ RdB wr wr.heap.size A (n + 4 * j) (sealK j l)) ∧ Below w.heap.size w wr ∧ Below w2.heap.size w2 wr) (fun _ _ i _ _ _ => k - (intOf i).toNat)
      case atStart => exact ⟨k, by omega, by simp, ⟨A3, c3, rfl, hc3, hm3, r3⟩, B3, D3⟩
      case round =>
        clear r3 B3 D3
        obtain ⟨j, hj, rfl, ⟨A5, c5, rfl, hc5, hm5, r5⟩, B5, D5⟩ := hrel
        by_cases hj0 : 0 < j
        · obtain ⟨j, rfl⟩ : ∃ i, j = i + 1 := ⟨j - 1, by omega⟩
          have hlt : ((k - (j + 1) : Nat) : Int) < (k : Int) := by omega
          have hle : (k - (j + 1) : Nat) ≤ 10 := by omega
          have hnum : (((k - (j + 1) : Nat) : Int) + 1) = ((k - j : Nat) : Int) := by omega
          have HNUM := hide hnum
          clear hnum
          generalize (k - (j + 1) : Nat) = q at hlt hle HNUM ⊢
          go_wp2_with fail
          refine (open_any _ _ _ (sealK (j + 1) l) _ r5 hc5 hm5 (by omega)).mono ?_
          rintro e w6 ⟨v6, rfl, own6, hb6⟩
          rw [show sealK (j + 1) l = sealL (sealK j l) from rfl, openErr_sealL]
          rw [show sealK (j + 1) l = sealL (sealK j l) from rfl, openBody_sealL, sealK_len, hlen] at own6
          obtain ⟨A6, c6, rfl, hc6, hm6, r6⟩ := own6.form
          clear own6
          go_wp2_with fail
          go_roundw
          case rel => exact ⟨j, by omega, by rw [HNUM.out], ⟨A6, c6, rfl, hc6, hm6, r6⟩, B5.trans (hb6.mono B5.size), D5.trans (hb6.mono D5.size)⟩
          case measure => simp [intOf]; omega
        · obtain rfl : j = 0 := by omega
          go_wp2_with fail
          refine (sameBytes_any _ _ _ _ _ _ _ _ _ r5 (Rd.next r2 D5) (by simp only [maxLen]; omega)).mono ?_
          rintro e w7 ⟨rfl, nq, rfl⟩
          rw [show sealK 0 l = l from rfl, decide_eq_true rfl]
          go_wp2_with fail
          go_ret
          exact ⟨rfl, below_drewN B5 _⟩
theorem back_law (H : Type) (enc : TypeId × Value → H) : LawWalk H enc Try.prog 4 Try.f4 := by
  intro W base args ds p hval hA hwt
  rw [Try.params4] at hA hval hwt
  obtain ⟨v0, vs0, d0, ds0, p0, q0, hargs, rfl, rfl, h0, r0⟩ := trodAll_cons hA
  obtain ⟨v1, vs1, d1, ds1, p1, q1, rfl, rfl, rfl, h1, r1⟩ := trodAll_cons r0
  obtain ⟨rfl, rfl, rfl⟩ := trodAll_nil r1
  obtain rfl : args = #[v0, v1] := by cases args; simp_all
  simp only [DataW.weightsEach, List.all_append, Bool.and_eq_true] at hwt
  obtain ⟨w0, w1, _⟩ := hwt
  obtain ⟨A, n, c, l, rfl, hr, hc, hm⟩ := open_bytes Try.underlying23 Try.underlying5 (by kernel_rfl) (by kernel_rfl) (hval 0 _ _ rfl rfl) h0 w0
  obtain ⟨t, rfl, rfl, rfl, wft⟩ := open_int Try.underlying3 (hval 1 _ _ rfl rfl) h1
  exact back_walk A n c t l W hr hc hm (bounds_i64 wft)
set_option maxRecDepth 100000 in
theorem back_lifted (os : Os) (started : os.Started) (H : Type) (enc : TypeId × Value → H) :
    ReturnsInHanded {} Try.checked os 4 .any (Rows.crcBackSpec.pre6 enc Try.prog Try.f4 Rows.crcBackRow.domain false) (Rows.crcBackSpec.post enc Try.prog Try.f4 false true false false) :=
  lift_law (C := Try.checked) (s := Rows.crcBackSpec) laidOut own started (by kernel_rfl) Try.func4 (by kernel_rfl) Try.underlying4 (by kernel_rfl) rfl
      (fun ds hd => by rw [Try.params4] at hd; match ds, hd with | [_, _], _ => rfl)
      (ChangeSpec.witness6 (enc := enc) (C := Try.checked) false ⟨#[], #[.slice none 0 0, .int .i64 0], []⟩ 8 (by kernel_rfl) (by kernel_rfl) (by kernel_rfl) (by kernel_rfl))
      (back_law H enc)
theorem back_holds : Rows.CrcBackSaid :=
  OpenClaim.holds_of_wide 4 Try.f4 rfl rfl rfl rfl rfl rfl rfl ⟨rfl, rfl, rfl, rfl, rfl⟩ rfl rfl rfl rfl rfl (by kernel_rfl) Try.func4 (by kernel_rfl)
    (of_decide_eq_true (by kernel_rfl)) (by unfold Func.isWrapper; first | (rw [if_pos (by decide +kernel)]; kernel_rfl) | (rw [if_neg (by decide +kernel)]; exact ⟨rfl, rfl⟩))
    (fun os started H enc _ => back_lifted os started H enc)
#print axioms back_holds
end Go.Proofs.Ytlliffbhkagodaa
