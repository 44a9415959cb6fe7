/- code.put, code.first, code.count. -/
import Derived.Test.YtoammbfipinejaaProg
import Derived.Test.YtoammbfipinejaaUse
import Derived.Test.YtoammbfipinejaaCodePlain
namespace Go.Proofs.Ytoammbfipinejaa
open Go.RowKit
set_option linter.unusedVariables false
set_option linter.unusedSimpArgs false

theorem or128 : ∀ n : Nat, n < 256 → n ||| 128 = 128 + n % 128 := by decide +kernel
theorem spell_more (u : Nat) : bits BinOp.or IntKind.u8 ((u : Int) % 256) 128 = (((UInt8.ofNat (128 + u % 128)).toNat : Nat) : Int) := by
  have h := u8_or_nat (u % 256) 128 (by omega) (by omega)
  rw [or128 _ (by omega)] at h
  have e : (((u % 256 : Nat)) : Int) = (u : Int) % 256 := by omega
  rw [e] at h
  rw [UInt8.toNat_ofNat', Nat.mod_eq_of_lt (by omega)]
  rw [show 128 + u % 128 = 128 + u % 256 % 128 from by omega]
  exact h
theorem spell_last (u : Nat) (h : u < 128) : (u : Int) = (((UInt8.ofNat u).toNat : Nat) : Int) := by rw [ofNat_toNat (by omega)]
set_option maxRecDepth 100000 in
theorem put_any (v : Value) (n : Nat) (l : List UInt8) (u lo : Nat) (w : World) (hown : Ow w lo 5 1 v n (l.map bv)) (hlo : lo ≤ w.heap.size) (hu : u < 18446744073709551616) (hn : n ≤ 70368744175616) :
    Calls Try.prog 69 #[v, .int .u64 u] w fun e w' => ∃ v', e = .returned v' ∧ Ow w' lo 5 1 v' (n + (enc u).length) ((l ++ enc u).map bv) ∧ Below lo w w' := by
  obtain ⟨i0, hi0, hz0, hz1, hz2⟩ := info_parts Try.info8
  have hl := hown.1
  simp only [List.length_map, Nat.mul_one] at hl
  have HU := hide hu
  clear hu
  go_enter Try.func69, Try.ntmps69
  go_wp2
  go_loopw [0, 1] (fun v x wr => ∃ (f q m : Nat) (acc : List UInt8), x = .int .u64 q ∧ q < bnd f ∧ f ≤ 9 ∧ m + f + 1 ≤ n + 10 ∧ Ow wr lo 5 1 v m (acc.map bv) ∧ Hid (acc ++ encF f q = l ++ enc u) ∧ Below lo w wr) (fun _ x _ => (intOf x).toNat)
  case atStart => exact ⟨9, u, n, l, rfl, by rw [bnd9]; exact HU.out, by omega, by omega, hown, hide rfl, Below.refl _ _⟩
  case round =>
    obtain ⟨f, q, m, acc, rfl, hq, hf, hm, own, HE, hb⟩ := hrel
    by_cases h : q < 128
    · have he := HE.out
      rw [encF_small h] at he
      have HE2 := hide he
      clear he
      have hsp := spell_last q h
      have HS := hide hsp
      clear hsp
      have hcell : Rd (wr.alloc (.cells #[.int .u8 q] 5)) (wr.heap.size + 1) 1 (some ⟨wr.heap.size, 0, none⟩) 1 ([UInt8.ofNat q].map bv) := by
        rw [HS.out]
        exact RdB.lit wr [UInt8.ofNat q] 5 (0, 0) 1 rfl
      go_wp2_with (at_builtin; refine wpList_append_ow _ rfl (.tmp 15) (.tmp 18) _ rfl lo 5 i0 _ 1 1 Try.underlying46 hi0 hz0 hz1 hz2 rfl (by omega) _ m (acc.map bv) rfl (own.alloc _) (wr.heap.size + 1) (some ⟨wr.heap.size, 0, none⟩) 1 1 _ rfl hcell (bvs_one _) (by simp only [maxLen]; omega) (by omega) (by have := hb.size; simp; omega) ?_; intro v1 w1 hown1 hg1 hat1 hnn1)
      go_ret
      have hsum : m + 1 = n + (enc u).length := by
        have h1 := congrArg List.length HE2.out
        have h2 := own.1
        simp only [List.length_append, List.length_cons, List.length_nil, List.length_map, Nat.mul_one] at h1 h2
        omega
      refine ⟨_, rfl, ?_, (hb.alloc (by have := hb.size; omega) _).grown hg1 (by have := hb.size; simp; omega) (fun k hk => own.lt k hk)⟩
      rw [← HE2.out, ← hsum, List.map_append]
      exact hown1
    · match f with
      | 0 => simp only [bnd] at hq; omega
      | f + 1 =>
        have he := HE.out
        rw [encF_big h] at he
        have HE2 := hide he
        clear he HE
        have HQ := hide hq
        clear hq
        have hsp := spell_more q
        have hcell : Rd (wr.alloc (.cells #[.int .u8 ((UInt8.ofNat (128 + q % 128)).toNat : Nat)] 5)) (wr.heap.size + 1) 1 (some ⟨wr.heap.size, 0, none⟩) 1 ([UInt8.ofNat (128 + q % 128)].map bv) :=
          RdB.lit wr [UInt8.ofNat (128 + q % 128)] 5 (0, 0) 1 rfl
        generalize UInt8.ofNat (128 + q % 128) = y at hsp hcell HE2
        go_wp2_with (at_builtin; refine wpList_append_ow _ rfl (.tmp 9) (.tmp 13) _ rfl lo 5 i0 _ 1 1 Try.underlying46 hi0 hz0 hz1 hz2 rfl (by omega) _ m (acc.map bv) rfl (own.alloc _) (wr.heap.size + 1) (some ⟨wr.heap.size, 0, none⟩) 1 1 _ rfl hcell (bvs_one _) (by simp only [maxLen]; omega) (by omega) (by have := hb.size; simp; omega) ?_; intro v1 w1 hown1 hg1 hat1 hnn1)
        go_roundw
        case rel => exact ⟨f, q / 128, m + 1, acc ++ [y], by go_num, by have := HQ.out; simp only [bnd] at this; omega, by omega, by omega, by rw [List.map_append]; exact hown1, hide (by rw [List.append_assoc]; exact HE2.out), (hb.alloc (by have := hb.size; omega) _).grown hg1 (by have := hb.size; simp; omega) (fun k hk => own.lt k hk)⟩
        case measure => simp [intOf]; omega
end Go.Proofs.Ytoammbfipinejaa
