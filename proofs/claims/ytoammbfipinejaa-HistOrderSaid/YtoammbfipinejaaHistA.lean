/- Histograms: Bucket, Of. -/
import Derived.Test.YtoammbfipinejaaCodeE
import Derived.Test.YtoammbfipinejaaShelf
import Derived.Test.YtoammbfipinejaaRow
namespace Go.Proofs.Ytoammbfipinejaa
open Go.RowKit
set_option linter.unusedVariables false
set_option linter.unusedSimpArgs false
theorem bitLenAux_le : ∀ f x : Nat, Lib.bitLenAux f x ≤ f
  | 0, x => by simp [Lib.bitLenAux]
  | f + 1, x => by
    have := bitLenAux_le f (x / 2)
    unfold Lib.bitLenAux
    split <;> omega
theorem bitLen63 (x : Nat) (h : x < 9223372036854775808) : Lib.bitLen x ≤ 63 := by
  unfold Lib.bitLen
  rw [Lib.bitLenAux_fuel 63 x h 64 (by omega)]
  exact bitLenAux_le 63 x
/-- A long's bucket. -/
def bkt (v : Int) : Nat := if v < 0 then 0 else if v = 0 then 1 else Lib.bitLen v.toNat + 1
theorem bkt_lt (v : Int) (h : v ≤ 9223372036854775807) : bkt v < 65 := by
  unfold bkt
  have := bitLen63 v.toNat (by omega)
  split
  · omega
  · split <;> omega
set_option maxRecDepth 100000 in
theorem bucket_any (v : Int) (w : World) (h1 : -9223372036854775808 ≤ v) (h2 : v ≤ 9223372036854775807) :
    Calls Try.prog 52 #[.int .i64 v] w fun e w' => e = .returned (.int .i64 (bkt v)) ∧ w = w' := by
  by_cases c1 : v < 0
  · have HE := hide (show bkt v = 0 from if_pos c1)
    go_enter Try.func52, Try.ntmps52
    go_wp2
    go_ret
    exact ⟨ret_int (by rw [HE.out]; rfl), rfl⟩
  by_cases c2 : v = 0
  · subst c2
    have HE := hide (show bkt 0 = 1 by decide)
    go_enter Try.func52, Try.ntmps52
    go_wp2
    go_ret
    exact ⟨ret_int (by rw [HE.out]; rfl), rfl⟩
  have HE := hide (show bkt v = Lib.bitLen v.toNat + 1 by unfold bkt; rw [if_neg c1, if_neg c2])
  have hl := bitLen63 v.toNat (by omega)
  have hw : IntKind.u64.wrap v = v := by simp [IntKind.wrap, IntKind.bits, IntKind.signed]; omega
  have HB := hide (Try.bits_Len64 v w (by omega) (by omega))
  have hn : (v == 0) = false := by simpa using c2
  generalize Lib.bitLen v.toNat = q at *
  go_enter Try.func52, Try.ntmps52
  go_wp2_with (go_at_call 90; refine HB.out.mono ?_; rintro e w' ⟨rfl, rfl⟩)
  go_ret
  exact ⟨ret_int (by rw [HE.out]; omega), rfl⟩

/-! ### the cells of a histogram -/
def hc (l : List Int) : Array Value := (l.map i64v).toArray
def z65 : List Int := List.replicate 65 0
theorem hc_z65 : Try.zeroCells69 = hc z65 := by kernel_rfl
theorem hc_size (l : List Int) : (hc l).size = l.length := by simp [hc]
theorem hc_get (l : List Int) (k : Nat) : (hc l)[k]? = l[k]?.map i64v := by simp [hc]
theorem hc_set (l : List Int) (k : Nat) (v : Int) : (hc l).setIfInBounds k (.int .i64 v) = hc (l.set k v) := by
  simp [hc, List.map_set, i64v]
theorem hc_one (l : List Int) : (hc l).all (·.oneCell') = true := by
  rw [Array.all_eq_true_iff_forall_mem]
  intro v hv
  simp only [hc, List.mem_toArray, List.mem_map] at hv
  obtain ⟨x, _, rfl⟩ := hv
  rfl
theorem info69 : (Try.prog.info? 69).map (·.size) = some 65 := by kernel_rfl
theorem info69l {l : List Int} (h : l.length = 65) : (Try.prog.info? 69).map (·.size) = some (hc l).size := by rw [info69, hc_size, h]
/-- One more in a bucket. -/
def bump (l : List Int) (b : Nat) : List Int := l.set b (l[b]?.getD 0 + 1)
def histL (xs : List Int) : List Int := xs.foldl (fun l v => bump l (bkt v)) z65
theorem bump_len (l : List Int) (b : Nat) : (bump l b).length = l.length := by simp [bump]
theorem fold_snoc' {α : Type} {σ : Type} (st : σ → α → σ) (l : List α) (k : Nat) (x : α) (s : σ) (h : l[k]? = some x) : (l.take (k + 1)).foldl st s = st ((l.take k).foldl st s) x := by
  rw [List.take_add_one, h, List.foldl_append]; rfl
set_option maxRecDepth 100000 in
theorem of_any (A : Option Addr) (n c : Nat) (xs : List Int) (w : World) (hr : Rd w w.heap.size 1 A n (xs.map i64v)) (hn : n ≤ 140737488351232) (hx : ∀ x ∈ xs, -9223372036854775808 ≤ x ∧ x ≤ 9223372036854775807) :
    Calls Try.prog 38 #[.slice A n c] w fun e w' => e = .returned (.agg (hc (histL xs))) ∧ Below w.heap.size w w' := by
  have HN := hide hr.len
  have HX := hide hx
  clear hx
  go_enter Try.func38, Try.ntmps38
  go_wp2_with fail
  rw [hc_z65]
  go_loopw [5, 8] (fun _ i wr => ∃ (k : Nat) (l : List Int), k ≤ n ∧ i = .int .i64 k ∧ Blk wr w.heap.size 69 (hc z65) ∧ Blk wr (w.heap.size + 1) 69 (hc l) ∧ l.length = 65 ∧ Below w.heap.size w wr ∧ Hid (l = (xs.take k).foldl (fun l v => bump l (bkt v)) z65) ∧ Hid (∀ (b : Nat) (x : Int), l[b]? = some x → 0 ≤ x ∧ x ≤ k)) (fun _ i _ => n - (intOf i).toNat)
  case atStart => 
    refine ⟨0, z65, Nat.zero_le _, rfl, (Blk.new _ _ _).alloc _, by simpa using Blk.new (w.alloc (.cells (hc z65) 69)) _ _, rfl, ((Below.refl _ _).alloc (Nat.le_refl _) _).alloc (by simp) _, hide rfl, hide (fun b x h => ?_)⟩
    have := List.mem_of_getElem? h
    have := List.eq_of_mem_replicate this
    omega
  case round =>
    obtain ⟨k, l, hk, rfl, b0, b1, hl, hb, HL, HC⟩ := hrel
    by_cases hk1 : k < n
    · obtain ⟨ba, off, rfl, hbb, x, hx, hcell⟩ := hr.get hk1
      have hc' := (hb.cell (p := ⟨ba, off + k, none⟩) hbb).trans hcell
      unfold i64v at hc'
      have HX1 := hide hx
      have hxl := HX.out x (List.mem_of_getElem? hx)
      have hlt := bkt_lt x hxl.2
      have HB := hide (fun w => bucket_any x w hxl.1 hxl.2)
      have hs := fold_snoc' (fun l v => bump l (bkt v)) xs k x z65 hx
      rw [← HL.out] at hs
      have HS := hide hs.symm
      clear hx hcell hs hxl
      generalize bkt x = b at *
      have hy : ∃ y, l[b]? = some y := ⟨l[b], List.getElem?_eq_getElem (by omega)⟩
      obtain ⟨y, hy⟩ := hy
      have hyb := HC.out b y hy
      have c1 := b1.cell b
      rw [hc_get, hy] at c1
      simp only [Option.map_some, i64v] at c1
      have f1 := b1.frozen b
      have HY := hide hy
      have H0 := hide b0
      have H1 := hide b1
      clear hy b0 b1
      go_wp2_with (go_at_call 52; refine (HB.out _).mono ?_; rintro e w' ⟨rfl, rfl⟩)
      go_roundw
      case rel =>
        refine ⟨k + 1, bump l b, by omega, by go_num, H0.out.far (by simp) _, ?_, by rw [bump_len]; exact hl, ?_, HS, hide (fun b' x' h' => ?_)⟩
        · have := H1.out.set_ b (.int .i64 (y + 1))
          rw [hc_set] at this
          rw [bump, HY.out]
          exact this
        · exact hb.setCell (by simp) _
        · unfold bump at h'
          rw [HY.out, List.getElem?_set] at h'
          by_cases hbb : b = b'
          · subst hbb
            simp [show b < l.length by omega] at h'
            subst h'
            simp; omega
          · rw [if_neg hbb] at h'
            have := HC.out b' x' h'
            omega
      case measure => simp [intOf]; omega
    · have htk : xs.take k = xs := List.take_of_length_le (by have := HN.out; omega)
      have hs := HL.out
      rw [htk] at hs
      have HS := hide (show l = histL xs from hs)
      clear hs HL HC
      have H0 := hide b0
      have H1 := hide b1
      have H9 := hide hl
      clear b0 b1 hl
      go_wp2_with (first
        | refine wpList_load_blk rfl 69 (.tmp 3) rfl _ rfl (hc l) _ H1.out Try.underlying69 rfl (info69l H9.out) ?_
        | refine wpList_store_blk rfl 69 (.tmp 2) (.tmp 19) rfl _ rfl (hc z65) (hc l) rfl H0.out (by rw [hc_size, hc_size, H9.out]; rfl) (info69l H9.out) (hc_one l) ?_)
      exact bodyPost_ret_by (results_cell rfl _ w.heap.size rfl (hc l) _ (H0.out.setRow _) Try.underlying69 rfl (info69l H9.out)) rfl ⟨by rw [HS.out], below_setRow hb (Nat.le_refl _) _⟩
end Go.Proofs.Ytoammbfipinejaa
