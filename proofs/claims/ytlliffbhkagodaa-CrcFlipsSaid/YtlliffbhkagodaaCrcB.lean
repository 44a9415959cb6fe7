/- SameBytes, join, and the document's Seal. -/
import Derived.Test.YtlliffbhkagodaaCrcA
namespace Go.Proofs.Ytlliffbhkagodaa
open Go.RowKit
set_option linter.unusedVariables false

theorem take_ne {l l' : List UInt8} {k : Nat} (h : k < l.length) (h' : k < l'.length) (hne : l[k] ≠ l'[k]) : l ≠ l' := by
  intro e; subst e; exact hne rfl
theorem take_snoc_eq {l l' : List UInt8} {k : Nat} (h : k < l.length) (h' : k < l'.length) (ht : l.take k = l'.take k) (he : l[k] = l'[k]) : l.take (k + 1) = l'.take (k + 1) := by
  rw [List.take_succ_eq_append_getElem h, List.take_succ_eq_append_getElem h', ht, he]
theorem toNat_ne {a b : UInt8} (h : a ≠ b) : (((a.toNat : Int) != (b.toNat : Int)) = true) := by
  have : a.toNat ≠ b.toNat := fun e => h (UInt8.toNat_inj.1 e)
  simp; omega
theorem toNat_eqb {a b : UInt8} (h : a = b) : (((a.toNat : Int) != (b.toNat : Int)) = false) := by
  subst h; simp

theorem sameBytes_any (A A' : Option Addr) (n c n' c' : Nat) (l l' : List UInt8) (w : World) (hr : RdB w w.heap.size A n l) (hr' : RdB w w.heap.size A' n' l') (hn : n ≤ maxLen) :
    Calls Try.prog 14 #[.slice A n c, .slice A' n' c'] w fun e w' => e = .returned (.bool (decide (l = l'))) ∧ ∃ q, w' = w.drewN q := by
  unfold maxLen at hn
  have hl := RdB.len hr
  have hl' := RdB.len hr'
  by_cases hnn : n = n'
  · have hb : ((n : Int) != (n' : Int)) = false := by simp; omega
    have HN := hide hnn
    clear hnn
    go_enter Try.func14, Try.ntmps14
    go_wp2
    go_loopw [4, 5] (fun _ i wr => ∃ k : Nat, k ≤ n ∧ i = .int .i64 k ∧ l.take k = l'.take k ∧ ∃ q, wr = w.drewN q) (fun _ i _ => n - (intOf i).toNat)
    case atStart => exact ⟨0, Nat.zero_le _, rfl, rfl, 0, rfl⟩
    case round =>
      obtain ⟨k, hk, rfl, ht, q, rfl⟩ := hrel
      have HT := hide ht
      clear ht
      by_cases hk1 : k < n
      · obtain ⟨b, off, rfl, hbb, hc⟩ := RdB.cell hr hk1
        obtain ⟨b', off', rfl, hbb', hc'⟩ := RdB.cell hr' (k := k) (by have := HN.out; omega)
        have hk2 : k < l.length := by omega
        have hk3 : k < l'.length := by have := HN.out; omega
        have hk4 : (k : Int) < (n' : Int) := by have := HN.out; omega
        by_cases he : l[k] = l'[k]
        · have hb2 := toNat_eqb he
          have HE := hide he
          clear he
          go_wp2_with fail
          go_quiet (fail)
          go_wp2
          go_roundw
          case rel => exact ⟨k + 1, by omega, by go_num, take_snoc_eq hk2 hk3 HT.out HE.out, _, rfl⟩
          case measure => simp [intOf]; omega
        · have hb2 := toNat_ne he
          have HE := hide he
          clear he
          go_wp2_with fail
          go_quiet (fail)
          go_wp2
          go_ret
          exact ⟨ret_bool (by rw [decide_eq_false (take_ne hk2 hk3 HE.out)]), _, World.drewN_drewN _ _ _⟩
      · go_wp2
        go_ret
        have h1 := HT.out
        rw [List.take_of_length_le (by omega), List.take_of_length_le (by have := HN.out; omega)] at h1
        exact ⟨ret_bool (by rw [decide_eq_true h1]), _, rfl⟩
  · have hb : ((n : Int) != (n' : Int)) = true := by simp; omega
    have HN := hide hnn
    clear hnn
    go_enter Try.func14, Try.ntmps14
    go_wp2
    go_ret
    refine ⟨ret_bool (by rw [decide_eq_false]; intro e; subst e; exact HN.out (by omega)), 0, rfl⟩

theorem join_any (A : Option Addr) (n c : Nat) (ls : List (List UInt8)) (w : World) (hp : RdP w w.heap.size A n ls) (hn : n ≤ 140737488351232) (hs : ls.flatten.length ≤ 140737488351232) :
    Calls Try.prog 8 #[.slice A n c] w fun e w' => ∃ v, e = .returned v ∧ Ow w' w.heap.size 5 1 v ls.flatten.length (ls.flatten.map bv) ∧ Below w.heap.size w w' := by
  obtain ⟨i0, hi0, hz0, hz1, hz2⟩ := info_parts Try.info8
  have hlen := hp.1
  go_enter Try.func8, Try.ntmps8
  go_wp2
  go_loopw [3, 4] (fun v i wr => ∃ k : Nat, k ≤ n ∧ i = .int .i64 k ∧ Ow wr w.heap.size 5 1 v (ls.take k).flatten.length ((ls.take k).flatten.map bv) ∧ Below w.heap.size w wr) (fun _ i _ => n - (intOf i).toNat)
  case atStart => exact ⟨0, Nat.zero_le _, rfl, Ow.lit w #[] 0 (Nat.le_refl _) (by simp [maxLen]) rfl, (Below.refl _ _).alloc (Nat.le_refl _) _⟩
  case round =>
    obtain ⟨k, hk, rfl, hown, hbl⟩ := hrel
    by_cases hk1 : k < n
    · obtain ⟨b, off, Ai, ci, l, rfl, hb, hl, hc, h1, h2, h4⟩ := hp.cell hk1
      have hc' := (hbl.cell (p := ⟨b, off + k, none⟩) hb).trans hc
      have hsn := flat_snoc ls k l hl
      have hle := flat_take_le ls (k + 1)
      rw [hsn, List.length_append] at hle
      have HS := hide hsn
      clear hsn hl
      generalize (ls.take k).flatten = acc at hown hle HS
      go_wp2_with (at_builtin; refine wpList_append_ow _ rfl (.tmp 12) (.tmp 16) _ rfl w.heap.size 5 i0 _ 1 1 Try.underlying23 hi0 hz0 hz1 hz2 rfl (by omega) _ _ _ rfl hown w.heap.size Ai l.length ci (l.map bv) rfl (h4.below hbl) (bvs_one l) (by simp only [maxLen]; omega) (by omega) hbl.size ?_; intro v1 w1 hown1 hg1 hat1 hnn1)
      go_roundw
      case rel =>
        refine ⟨k + 1, by omega, by go_num, ?_, hbl.grown hg1 hbl.size (fun g hg => hown.lt g hg)⟩
        rw [HS.out, List.length_append, List.map_append]
        exact hown1
      case measure => simp [intOf]; omega
    · go_wp2
      go_ret
      have : ls.take k = ls := List.take_of_length_le (by omega)
      rw [this] at hown
      exact ⟨_, rfl, hown, hbl⟩

/-! ### the bytes of a sum -/
def le4 (s : Nat) : List UInt8 := [UInt8.ofNat s, UInt8.ofNat (s / 256), UInt8.ofNat (s / 65536), UInt8.ofNat (s / 16777216)]
theorem ofNat_u8 (s : Nat) : ((UInt8.ofNat s).toNat : Int) = (s : Int) % 256 := by simp [UInt8.toNat_ofNat']
theorem ofNat_u8d (s d : Nat) : ((UInt8.ofNat (s / d)).toNat : Int) = (s : Int) / (d : Int) % 256 := by simp [UInt8.toNat_ofNat']
theorem le4_spelled (s : Nat) (h : s < 4294967296) : ([Value.int .u8 ((s : Int) % 256), .int .u8 ((s : Int) / 256 % 256), .int .u8 ((s : Int) / 65536 % 256), .int .u8 ((s : Int) / 16777216)] : List Value) = (le4 s).map bv := by
  have h4 : (s : Int) / 16777216 = ((UInt8.ofNat (s / 16777216)).toNat : Int) := by rw [ofNat_u8d]; omega
  rw [h4]
  simp only [le4, List.map, bv, ofNat_u8]
  rfl
theorem refSeal_any (A : Option Addr) (n c : Nat) (l : List UInt8) (w : World) (hr : RdB w w.heap.size A n l) (hn : n ≤ 70368744175616) :
    Calls Try.prog 16 #[.slice A n c] w fun e w' => ∃ v, e = .returned v ∧ Ow w' w.heap.size 5 1 v (n + 4) ((l ++ le4 (sumN l)).map bv) ∧ Below w.heap.size w w' := by
  obtain ⟨i0, hi0, hz0, hz1, hz2⟩ := info_parts Try.info8
  have hlt := sumN_lt l
  have hle := le4_spelled (sumN l) hlt
  have HLE := hide hle
  clear hle
  go_enter Try.func16, Try.ntmps16
  go_wp2_with (first
   | (go_at_call 13; refine (refSum_any A n c l _ hr (by omega)).mono ?_; rintro e w' ⟨rfl, rfl⟩)
   | (at_builtin; refine wpList_append_ow _ rfl (.tmp 6) (.tmp 7) _ rfl w.heap.size 5 i0 _ 1 1 Try.underlying23 hi0 hz0 hz1 hz2 rfl (by omega) (.slice (some ⟨w.heap.size, 0, none⟩) 0 0) 0 [] rfl (Ow.lit w #[] 0 (Nat.le_refl _) (by simp [maxLen]) rfl) w.heap.size A n c (l.map bv) rfl (hr.alloc (Nat.le_refl _) _) (bvs_one l) (by simp only [maxLen]; omega) (by omega) (by simp) ?_; intro v1 w1 hown1 hg1 hat1 hnn1)
   | (at_builtin; refine wpList_append_ow _ rfl (.tmp 8) (.tmp 20) _ rfl w.heap.size 5 i0 _ 1 1 Try.underlying23 hi0 hz0 hz1 hz2 rfl (by omega) v1 (0 + n) ([] ++ l.map bv) rfl (hown1.alloc _) (w1.heap.size + 1) (some ⟨w1.heap.size, 0, none⟩) 4 4 ((le4 (sumN l)).map bv) rfl (by rw [← HLE.out]; exact Rd.lit _ _ _ _ _ (by simp [maxLen]) rfl) (bvs_one _) (by simp only [maxLen]; omega) (by omega) (by have := hg1.size; simp at this ⊢; omega) ?_; intro v2 w2 hown2 hg2 hat2 hnn2))
  go_ret
  have hb1 : Below w.heap.size w w1 := ((Below.refl _ _).alloc (Nat.le_refl _) _).grown hg1 (by simp) (by simp [Value.ownBlock])
  refine ⟨_, rfl, ?_, ?_⟩
  · rw [List.map_append]
    simpa using hown2
  · exact (hb1.alloc hb1.size _).grown hg2 (by have := hb1.size; simp; omega) (fun k hk => hown1.lt k hk)
end Go.Proofs.Ytlliffbhkagodaa
