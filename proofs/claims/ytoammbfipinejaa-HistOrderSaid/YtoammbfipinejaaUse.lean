/- What the statements share: CopyBytes, SameBytes; and bytes.Clone. -/
import Derived.Test.YtoammbfipinejaaProg
import Derived.Test.YtoammbfipinejaaBase
import Derived.Test.YtoammbfipinejaaShelf
namespace Go.Proofs.Ytoammbfipinejaa
open Go.RowKit
set_option linter.unusedVariables false
set_option linter.unusedSimpArgs false

theorem Try.info8 : (Try.prog.info? 5).map (fun i => (i.zero, i.size, i.bytes)) = some (some (.int .u8 0), 1, 1) := by kernel_rfl

theorem RdB.lit (w : World) (l : List UInt8) (e : TypeId) (fz : Nat × Nat) (n : Nat) (hl : l.length = n) : RdB (w.alloc (.cells (l.map bv).toArray e fz)) (w.heap.size + 1) (some ⟨w.heap.size, 0, none⟩) n l :=
  Rd.litm w (l.map bv).toArray e fz n 1 (by simpa using hl)

theorem copyBytes_any (A : Option Addr) (n c : Nat) (l : List UInt8) (w : World) (hr : RdB w w.heap.size A n l) (hn : n ≤ 140737488351232) :
    Calls Try.prog 33 #[.slice A n c] w fun e w' => ∃ v, e = .returned v ∧ Ow w' w.heap.size 5 1 v n (l.map bv) ∧ Below w.heap.size w w' := by
  obtain ⟨i0, hi0, hz0, hz1, hz2⟩ := info_parts Try.info8
  go_enter Try.func33, Try.ntmps33
  go_wp2_with (at_builtin; refine wpList_append_ow _ rfl (.tmp 3) (.tmp 4) _ rfl w.heap.size 5 i0 _ 1 1 Try.underlying46 hi0 hz0 hz1 hz2 rfl (by omega) (.slice (some ⟨w.heap.size, 0, none⟩) 0 0) 0 [] rfl (Ow.lit w #[] 0 (Nat.le_refl _) (by simp [maxLen]) rfl) w.heap.size A n c (l.map bv) rfl (hr.alloc (Nat.le_refl _) _) (bvs_one l) (by simp only [maxLen]; omega) (by omega) (by simp) ?_; intro v1 w1 hown1 hg1 hat1 hnn1)
  go_ret
  refine ⟨_, rfl, by simpa using hown1, ?_⟩
  exact (((Below.refl _ _).alloc (Nat.le_refl _) _).grown hg1 (by simp) (by simp [Value.ownBlock]))
theorem take_ne {l l' : List UInt8} {k : Nat} (h : k < l.length) (h' : k < l'.length) (hne : l[k] ≠ l'[k]) : l ≠ l' := by
  intro e; subst e; exact hne rfl
theorem take_snoc_eq {l l' : List UInt8} {k : Nat} (h : k < l.length) (h' : k < l'.length) (ht : l.take k = l'.take k) (he : l[k] = l'[k]) : l.take (k + 1) = l'.take (k + 1) := by
  rw [List.take_succ_eq_append_getElem h, List.take_succ_eq_append_getElem h', ht, he]
theorem toNat_ne {a b : UInt8} (h : a ≠ b) : (((a.toNat : Int) != (b.toNat : Int)) = true) := by
  have : a.toNat ≠ b.toNat := fun e => h (UInt8.toNat_inj.1 e)
  simp; omega
theorem toNat_eqb {a b : UInt8} (h : a = b) : (((a.toNat : Int) != (b.toNat : Int)) = false) := by
  subst h; simp

theorem sameBytes_any (A A' : Option Addr) (n c n' c' : Nat) (l l' : List UInt8) (w : World) (hr : RdB w w.heap.size A n l) (hr' : RdB w w.heap.size A' n' l') (hn : n ≤ maxLen) :
    Calls Try.prog 27 #[.slice A n c, .slice A' n' c'] w fun e w' => e = .returned (.bool (decide (l = l'))) ∧ ∃ q, w' = w.drewN q := by
  unfold maxLen at hn
  have hl := RdB.len hr
  have hl' := RdB.len hr'
  by_cases hnn : n = n'
  · have hb : ((n : Int) != (n' : Int)) = false := by simp; omega
    have HN := hide hnn
    clear hnn
    go_enter Try.func27, Try.ntmps27
    go_wp2
    go_loopw [4, 5] (fun _ i wr => ∃ k : Nat, k ≤ n ∧ i = .int .i64 k ∧ l.take k = l'.take k ∧ ∃ q, wr = w.drewN q) (fun _ i _ => n - (intOf i).toNat)
    case atStart => exact ⟨0, Nat.zero_le _, rfl, rfl, 0, rfl⟩
    case round =>
      obtain ⟨k, hk, rfl, ht, q, rfl⟩ := hrel
      have HT := hide ht
      clear ht
      by_cases hk1 : k < n
      · obtain ⟨b, off, rfl, hbb, hc⟩ := RdB.cell hr hk1
        obtain ⟨b', off', rfl, hbb', hc'⟩ := RdB.cell hr' (k := k) (by have := HN.out; omega)
        have hk2 : k < l.length := by omega
        have hk3 : k < l'.length := by have := HN.out; omega
        have hk4 : (k : Int) < (n' : Int) := by have := HN.out; omega
        by_cases he : l[k] = l'[k]
        · have hb2 := toNat_eqb he
          have HE := hide he
          clear he
          go_wp2_with fail
          go_quiet (fail)
          go_wp2
          go_roundw
          case rel => exact ⟨k + 1, by omega, by go_num, take_snoc_eq hk2 hk3 HT.out HE.out, _, rfl⟩
          case measure => simp [intOf]; omega
        · have hb2 := toNat_ne he
          have HE := hide he
          clear he
          go_wp2_with fail
          go_quiet (fail)
          go_wp2
          go_ret
          exact ⟨ret_bool (by rw [decide_eq_false (take_ne hk2 hk3 HE.out)]), _, World.drewN_drewN _ _ _⟩
      · go_wp2
        go_ret
        have h1 := HT.out
        rw [List.take_of_length_le (by omega), List.take_of_length_le (by have := HN.out; omega)] at h1
        exact ⟨ret_bool (by rw [decide_eq_true h1]), _, rfl⟩
  · have hb : ((n : Int) != (n' : Int)) = true := by simp; omega
    have HN := hide hnn
    clear hnn
    go_enter Try.func27, Try.ntmps27
    go_wp2
    go_ret
    refine ⟨ret_bool (by rw [decide_eq_false]; intro e; subst e; exact HN.out (by omega)), 0, rfl⟩

theorem clone_any (A : Option Addr) (n c : Nat) (l : List UInt8) (w : World) (hr : RdB w w.heap.size A n l) (hn : n ≤ 140737488351232) :
    Calls Try.prog 70 #[.slice A n c] w fun e w' => ∃ v, e = .returned v ∧ Ow w' w.heap.size 5 1 v n (l.map bv) ∧ Below w.heap.size w w' := by
  have hlen := RdB.len hr
  cases A with
  | none =>
    have h0 : n = 0 := by
      rcases Nat.eq_zero_or_pos n with h | h
      · exact h
      · obtain ⟨b, off, h, _⟩ := hr.at_ h
        cases h
    subst h0
    have hl : l = [] := List.eq_nil_of_length_eq_zero hlen
    subst hl
    refine (Try.bytes_Clone_nil 0 c w).mono ?_
    rintro e w' ⟨rfl, rfl⟩
    exact ⟨_, rfl, Ow.nil _ _ _ _, Below.refl _ _⟩
  | some a =>
    refine (Try.bytes_Clone_at a n c (l.map fun x => (x.toNat : Int)) w (by simpa using hlen) (by omega) ?_).mono ?_
    · intro i hi
      obtain ⟨b, off, h, hb, hc⟩ := RdB.cell hr hi
      injection h with h
      subst h
      rw [Addr.add_lit, hc]
      have : i < l.length := by omega
      simp [List.getD, List.getElem?_eq_getElem this]
    · rintro e w' ⟨v, rfl, hown, _, hb⟩
      refine ⟨v, rfl, ?_, hb⟩
      have := Ow.of_own hown
      rw [List.map_map] at this
      exact this

end Go.Proofs.Ytoammbfipinejaa
