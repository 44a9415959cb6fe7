/- The document's Uint, Int, Text, Turn, Unturn. -/
import Derived.Test.YtoammbfipinejaaCodeH
namespace Go.Proofs.Ytoammbfipinejaa
open Go.RowKit
set_option linter.unusedVariables false
set_option linter.unusedSimpArgs false

theorem spell_more2 (u : Nat) : (128 + (u : Int) % 128) = (((UInt8.ofNat (128 + u % 128)).toNat : Nat) : Int) := by
  rw [UInt8.toNat_ofNat', Nat.mod_eq_of_lt (by omega)]
  omega
theorem bnd_le : ∀ (g f : Nat), f ≤ g → bnd f ≤ bnd g
  | 0, f, h => by obtain rfl : f = 0 := by omega
                  exact Nat.le_refl _
  | g + 1, f, h => by
    by_cases he : f = g + 1
    · subst he; exact Nat.le_refl _
    · have := bnd_le g f (by omega); simp only [bnd]; omega
set_option maxRecDepth 100000 in
theorem refUint_any (u : Nat) (w : World) (hu : u < 18446744073709551616) :
    Calls Try.prog 20 #[.int .u64 u] w fun e w' => ∃ v', e = .returned v' ∧ Ow w' w.heap.size 5 1 v' (enc u).length ((enc u).map bv) ∧ Below w.heap.size w w' := by
  obtain ⟨i0, hi0, hz0, hz1, hz2⟩ := info_parts Try.info8
  have HU := hide hu
  clear hu
  go_enter Try.func20, Try.ntmps20
  go_wp2
  go_loopw [0, 3] (fun x v wr => ∃ (f q m : Nat) (acc : List UInt8), x = .int .u64 q ∧ q < bnd f ∧ f ≤ 9 ∧ m + f + 1 ≤ 10 ∧ Ow wr w.heap.size 5 1 v m (acc.map bv) ∧ Hid (acc ++ encF f q = enc u) ∧ Below w.heap.size w wr) (fun x _ _ => (intOf x).toNat)
  case atStart => exact ⟨9, u, 0, [], rfl, by rw [bnd9]; exact HU.out, by omega, by omega, Ow.lit w #[] 0 (Nat.le_refl _) (by simp [maxLen]) rfl, hide rfl, (Below.refl _ _).alloc (Nat.le_refl _) _⟩
  case round =>
    obtain ⟨f, q, m, acc, rfl, hq, hf, hm, own, HE, hb⟩ := hrel
    by_cases h : q < 128
    · have he := HE.out
      rw [encF_small h] at he
      have HE2 := hide he
      clear he
      have hsp := spell_last q h
      have HS := hide hsp
      clear hsp
      have hcell : Rd (wr.alloc (.cells #[.int .u8 q] 5)) (wr.heap.size + 1) 1 (some ⟨wr.heap.size, 0, none⟩) 1 ([UInt8.ofNat q].map bv) := by
        rw [HS.out]
        exact RdB.lit wr [UInt8.ofNat q] 5 (0, 0) 1 rfl
      go_wp2_with (at_builtin; refine wpList_append_ow _ rfl (.tmp 16) (.tmp 19) _ rfl w.heap.size 5 i0 _ 1 1 Try.underlying46 hi0 hz0 hz1 hz2 rfl (by omega) _ m (acc.map bv) rfl (own.alloc _) (wr.heap.size + 1) (some ⟨wr.heap.size, 0, none⟩) 1 1 _ rfl hcell (bvs_one _) (by simp only [maxLen]; omega) (by omega) (by have := hb.size; simp; omega) ?_; intro v1 w1 hown1 hg1 hat1 hnn1)
      go_ret
      have hsum : m + 1 = (enc u).length := by
        have h1 := congrArg List.length HE2.out
        have h2 := own.1
        simp only [List.length_append, List.length_cons, List.length_nil, List.length_map, Nat.mul_one] at h1 h2
        omega
      refine ⟨_, rfl, ?_, (hb.alloc (by have := hb.size; omega) _).grown hg1 (by have := hb.size; simp; omega) (fun k hk => own.lt k hk)⟩
      rw [← HE2.out, List.map_append]
      rw [← HE2.out] at hsum
      rw [← hsum]
      exact hown1
    · match f with
      | 0 => simp only [bnd] at hq; omega
      | f + 1 =>
        have he := HE.out
        rw [encF_big h] at he
        have HE2 := hide he
        clear he HE
        have hwq : IntKind.u64.wrap ((q : Int) / 128) = (q : Int) / 128 := by
          have h1 := bnd_le 9 (f + 1) hf
          rw [bnd9] at h1
          rw [u64_wrap]; omega
        have HQ := hide hq
        clear hq
        have hsp := spell_more2 q
        have hcell : Rd (wr.alloc (.cells #[.int .u8 ((UInt8.ofNat (128 + q % 128)).toNat : Nat)] 5)) (wr.heap.size + 1) 1 (some ⟨wr.heap.size, 0, none⟩) 1 ([UInt8.ofNat (128 + q % 128)].map bv) :=
          RdB.lit wr [UInt8.ofNat (128 + q % 128)] 5 (0, 0) 1 rfl
        generalize UInt8.ofNat (128 + q % 128) = y at hsp hcell HE2
        rw [← hsp] at hcell
        have HSP := hide hsp
        clear hsp
        go_wp2_with (at_builtin; refine wpList_append_ow _ rfl (.tmp 7) (.tmp 12) _ rfl w.heap.size 5 i0 _ 1 1 Try.underlying46 hi0 hz0 hz1 hz2 rfl (by omega) _ m (acc.map bv) rfl (own.alloc _) (wr.heap.size + 1) (some ⟨wr.heap.size, 0, none⟩) 1 1 _ rfl hcell (bvs_one _) (by simp only [maxLen]; omega) (by omega) (by have := hb.size; simp; omega) ?_; intro v1 w1 hown1 hg1 hat1 hnn1)
        go_roundw
        case rel => exact ⟨f, q / 128, m + 1, acc ++ [y], by go_num, by have := HQ.out; simp only [bnd] at this; omega, by omega, by omega, by rw [List.map_append]; exact hown1, hide (by rw [List.append_assoc]; exact HE2.out), (hb.alloc (by have := hb.size; omega) _).grown hg1 (by have := hb.size; simp; omega) (fun k hk => own.lt k hk)⟩
        case measure => simp [intOf]; omega
set_option maxRecDepth 100000 in
theorem refTurn_any (v : Int) (w : World) (h1 : -9223372036854775808 ≤ v) (h2 : v ≤ 9223372036854775807) :
    Calls Try.prog 25 #[.int .i64 v] w fun e w' => e = .returned (.int .u64 (turnN v)) ∧ w = w' := by
  have he1 : 0 ≤ v → IntKind.u64.wrap (2 * IntKind.u64.wrap v) = turnN v := by
    intro h; rw [u64_wrap, u64_wrap, turnN, if_pos h]; omega
  have he2 : ¬ 0 ≤ v → IntKind.u64.wrap (IntKind.u64.wrap (2 * IntKind.u64.wrap (wrap64 (-wrap64 (v + 1)))) + 1) = turnN v := by
    intro h
    rw [IntWalk.wrap64_in (v + 1) (by constructor <;> omega), IntWalk.wrap64_in _ (by constructor <;> omega), u64_wrap, u64_wrap, u64_wrap, turnN, if_neg h]
    omega
  clear h1 h2
  by_cases hv : 0 ≤ v
  · have HE := hide (he1 hv)
    clear he1 he2
    go_enter Try.func25, Try.ntmps25
    go_wp2
    go_ret
    exact ⟨ret_int HE.out, rfl⟩
  · have HE := hide (he2 hv)
    clear he1 he2
    go_enter Try.func25, Try.ntmps25
    go_wp2
    go_ret
    exact ⟨ret_int HE.out, rfl⟩
set_option maxRecDepth 100000 in
theorem refUnturn_any (u : Nat) (w : World) (h : u < 18446744073709551616) :
    Calls Try.prog 22 #[.int .u64 u] w fun e w' => e = .returned (.int .i64 (unturnZ u)) ∧ w = w' := by
  have h2 : (u : Int) / 2 ≤ 9223372036854775807 := by omega
  clear h
  by_cases h0 : u % 2 = 0
  · have hb : ((u : Int) % 2 == 0) = true := by rw [beq_iff_eq]; omega
    have HE := hide (show unturnZ u = (u : Int) / 2 from if_pos h0)
    clear h0
    go_enter Try.func22, Try.ntmps22
    go_wp2
    go_ret
    exact ⟨ret_int HE.out.symm, rfl⟩
  · have hb : ((u : Int) % 2 == 0) = false := by rw [beq_eq_false_iff_ne]; omega
    have HE := hide (show unturnZ u = -((u : Int) / 2) - 1 from if_neg h0)
    clear h0
    go_enter Try.func22, Try.ntmps22
    go_wp2
    go_ret
    exact ⟨ret_int HE.out.symm, rfl⟩
theorem refInt_any (v : Int) (w : World) (h1 : -9223372036854775808 ≤ v) (h2 : v ≤ 9223372036854775807) :
    Calls Try.prog 24 #[.int .i64 v] w fun e w' => ∃ v', e = .returned v' ∧ Ow w' w.heap.size 5 1 v' (enc (turnN v)).length ((enc (turnN v)).map bv) ∧ Below w.heap.size w w' := by
  have HT := hide (refTurn_any v w h1 h2)
  have HL := hide (turnN_lt v h1 h2)
  clear h1 h2
  go_enter Try.func24, Try.ntmps24
  go_wp2_with fail
  refine HT.out.mono ?_
  rintro e w' ⟨rfl, rfl⟩
  go_wp2_with fail
  refine (refUint_any (turnN v) w HL.out).mono ?_
  rintro e w1 ⟨v1, rfl, own1, hb1⟩
  go_wp2_with fail
  go_ret
  exact ⟨_, rfl, own1, hb1⟩
theorem refText_any (s : ByteArray) (w : World) (hs : s.size ≤ 65536) :
    Calls Try.prog 26 #[.string s] w fun e w' => ∃ v', e = .returned v' ∧ Ow w' w.heap.size 5 1 v' (encT s).length ((encT s).map bv) ∧ Below w.heap.size w w' := by
  obtain ⟨i0, hi0, hz0, hz1, hz2⟩ := info_parts Try.info8
  have hw : IntKind.u64.wrap (s.size : Int) = s.size := by rw [u64_wrap]; omega
  have HEL := hide (show (enc s.size).length ≤ 10 from (encF_len 9 s.size).2)
  have HTL := hide (show (encT s).length = (enc s.size).length + s.size from by unfold encT; rw [List.length_append, size_toList])
  go_enter Try.func26, Try.ntmps26
  go_wp2_with (first
    | (go_at_call 20; refine (refUint_any s.size _ (by omega)).mono ?_; rintro e w1 ⟨v1, rfl, own1, hb1⟩)
    | (at_builtin; refine wpList_append_ow_str _ rfl (.tmp 6) (.tmp 7) _ _ rfl w.heap.size 5 i0 Try.underlying46 Try.underlying9 hi0 hz0 hz1 hz2 v1 _ _ rfl own1 s rfl (by have := HEL.out; simp only [maxLen]; omega) (by have := HEL.out; omega) hb1.size ?_; intro v2 w2 own2 hg2))
  go_ret
  rw [HTL.out]
  refine ⟨_, rfl, ?_, hb1.grown hg2 hb1.size (fun k hk => own1.lt k hk)⟩
  rw [encT, List.map_append]
  exact own2
end Go.Proofs.Ytoammbfipinejaa
