/- Wide sums: wide.Sum, Total. -/
import Derived.Test.YtoammbfipinejaaHistB
import Derived.Laws.Externs
namespace Go.Proofs.Ytoammbfipinejaa
open Go.RowKit
set_option linter.unusedVariables false
set_option linter.unusedSimpArgs false
/-- A wide number's value. -/
def wv (S : Int) : Array Value := #[.int .i64 (S / 18446744073709551616), .int .u64 (S % 18446744073709551616)]
theorem add64_run (x y : Int) (hx : 0 ≤ x) (hy : 0 ≤ y) (w : World) : (callFunc 97 #[.int .u64 x, .int .u64 y, .int .u64 0]).run Try.prog w =
    .ok (.value (.tuple #[.int .u64 ((x + y) % 18446744073709551616), .int .u64 ((x + y) / 18446744073709551616)])) w := by
  rw [run_callFunc_extern Try.func97 (by kernel_rfl) (by kernel_rfl) (by kernel_rfl) (e := add64Entry) (by kernel_rfl), run_add64 x y 0 hx hy (by omega) (by omega)]
  simp only [Result.andThen, Int.add_zero]
theorem wv_one (S : Int) : (wv S).all (·.oneCell') = true := by
  rw [Array.all_eq_true_iff_forall_mem]
  intro v hv
  simp only [wv, List.mem_toArray, List.mem_cons, List.not_mem_nil, or_false] at hv
  rcases hv with rfl | rfl <;> rfl
theorem info81 : (Try.prog.info? 81).map (·.size) = some 2 := by kernel_rfl
theorem sum_hi (S x : Int) (h1 : -9223372036854775808 * 65536 ≤ S) (h2 : S ≤ 9223372036854775808 * 65536) (x1 : -9223372036854775808 ≤ x) (x2 : x ≤ 9223372036854775807) :
    wrap64 (S / 18446744073709551616 + x / 9223372036854775808 + wrap64 ((S % 18446744073709551616 + IntKind.u64.wrap x) / 18446744073709551616)) = (S + x) / 18446744073709551616 := by
  rw [u64_wrap, IntWalk.wrap64_in ((S % 18446744073709551616 + x % 18446744073709551616) / 18446744073709551616) (by constructor <;> omega), IntWalk.wrap64_in _ (by constructor <;> omega)]
  omega
theorem sum_lo (S x : Int) : (S + IntKind.u64.wrap x) % 18446744073709551616 = (S + x) % 18446744073709551616 := by
  rw [u64_wrap]; omega
set_option maxRecDepth 100000 in
theorem sum_any (A : Option Addr) (n c : Nat) (xs : List Int) (w : World) (hr : Rd w w.heap.size 1 A n (xs.map i64v)) (hn : n ≤ 65536) (hx : ∀ x ∈ xs, -9223372036854775808 ≤ x ∧ x ≤ 9223372036854775807) :
    Calls Try.prog 85 #[.slice A n c] w fun e w' => e = .returned (.agg (wv xs.sum)) ∧ Below w.heap.size w w' := by
  have HN := hide hr.len
  have HX := hide hx
  clear hx
  go_enter Try.func85, Try.ntmps85
  go_wp2_with fail
  go_loopw [5, 6, 7, 10] (fun _ _ _ i wr => ∃ (k : Nat) (S : Int), k ≤ n ∧ i = .int .i64 k ∧ Blk wr w.heap.size 81 (wv 0) ∧ Blk wr (w.heap.size + 1) 81 (wv S) ∧ Below w.heap.size w wr ∧ Hid (S = (xs.take k).sum) ∧ -9223372036854775808 * (k : Int) ≤ S ∧ S ≤ 9223372036854775808 * (k : Int)) (fun _ _ _ i _ => n - (intOf i).toNat)
  case atStart =>
    exact ⟨0, 0, Nat.zero_le _, rfl, (Blk.new _ _ _).alloc _, by rw [← show (w.alloc (.cells (wv 0) 81)).heap.size = w.heap.size + 1 by simp]; exact Blk.new _ _ _, ((Below.refl _ _).alloc (Nat.le_refl _) _).alloc (by simp) _, hide rfl, by omega, by omega⟩
  case round =>
    obtain ⟨k, S, hk, rfl, b0, b1, hb, HS, hS1, hS2⟩ := hrel
    by_cases hk1 : k < n
    · obtain ⟨ba, off, rfl, hbb, x, hx, hcell⟩ := hr.get hk1
      have hc' := (hb.cell (p := ⟨ba, off + k, none⟩) hbb).trans hcell
      unfold i64v at hc'
      have HX1 := hide hx
      have hxl := HX.out x (List.mem_of_getElem? hx)
      have c0 := b1.cell 0
      have c1 := b1.cell 1
      simp only [wv, List.getElem?_toArray, List.getElem?_cons_zero, List.getElem?_cons_succ] at c0 c1
      have f0 := b1.frozen 0
      have f1 := b1.frozen 1
      have H0 := hide b0
      have H1 := hide b1
      have HA := hide (fun w => add64_run (S % 18446744073709551616) (IntKind.u64.wrap x) (by omega) (by rw [u64_wrap]; omega) w)
      clear b0 b1 hx hcell
      go_wp2_with (simp only [HA.out])
      go_roundw
      case rel =>
        rw [sum_hi S x (by omega) (by omega) hxl.1 hxl.2, sum_lo]
        refine ⟨k + 1, S + x, by omega, by go_num, (H0.out.far (by simp) _).far (by simp) _, ?_, (hb.setCell (by simp) _).setCell (by simp) _, hide ?_, by omega, by omega⟩
        · exact (H1.out.set_ 0 (.int .i64 ((S + x) / 18446744073709551616))).set_ 1 (.int .u64 ((S + x) % 18446744073709551616))
        · rw [HS.out, List.take_add_one, HX1.out, List.sum_append]
          simp
      case measure => simp [intOf]; omega
    · have htk : xs.take k = xs := List.take_of_length_le (by have := HN.out; omega)
      have hs := HS.out
      rw [htk] at hs
      subst hs
      have c0 := b1.cell 0
      have c1 := b1.cell 1
      simp only [wv, List.getElem?_toArray, List.getElem?_cons_zero, List.getElem?_cons_succ] at c0 c1
      have f0 := b0.frozen 0
      have f1 := b0.frozen 1
      have d0 := b0.cell 0
      have d1 := b0.cell 1
      simp only [wv, List.getElem?_toArray, List.getElem?_cons_zero, List.getElem?_cons_succ] at d0 d1
      have H0 := hide b0
      clear b0 b1 HS hS1 hS2
      obtain ⟨S, hS⟩ : ∃ S, S = xs.sum := ⟨_, rfl⟩
      rw [← hS] at c0 c1
      have HSS := hide hS
      clear hS
      go_wp2_with fail
      exact bodyPost_ret_by (results_cell rfl _ w.heap.size rfl (wv S) _ ((H0.out.set_ 0 (.int .i64 (S / 18446744073709551616))).set_ 1 (.int .u64 (S % 18446744073709551616))) Try.underlying81 rfl info81) rfl ⟨by rw [HSS.out], (hb.setCell (by simp) _).setCell (by simp) _⟩
set_option maxRecDepth 100000 in
theorem total_any (l : List Int) (w : World) (hl : l.length = 65) (hx : ∀ x ∈ l, -9223372036854775808 ≤ x ∧ x ≤ 9223372036854775807) :
    Calls Try.prog 47 #[.agg (hc l)] w fun e w' => e = .returned (.agg (wv l.sum)) ∧ Below w.heap.size w w' := by
  have HX := hide hx
  clear hx
  go_enter Try.func47, Try.ntmps47
  go_wp2_with fail
  have hb2 : Below w.heap.size w ((w.alloc (.cells (hc l) 69)).alloc (.cells (wv 0) 81)) := ((Below.refl _ _).alloc (Nat.le_refl _) _).alloc (by simp) _
  have b2 : Blk ((w.alloc (.cells (hc l) 69)).alloc (.cells (wv 0) 81)) (w.heap.size + 1) 81 (wv 0) := by
    rw [← show (w.alloc (.cells (hc l) 69)).heap.size = w.heap.size + 1 by simp]; exact Blk.new _ _ _
  refine (sum_any (some ⟨w.heap.size, 0, none⟩) 65 65 l _ (Rd.alloc' (Rd.litm w (hc l) 69 (0, 0) 65 1 (by rw [hc_size, hl]) |>.more (by simp)) _) (by omega) HX.out).mono ?_
  rintro e w3 ⟨rfl, hb3⟩
  have hb := hb2.trans (hb3.mono hb2.size)
  have b3 := b2.next hb3
  have f0 := b3.frozen 0
  have f1 := b3.frozen 1
  have d0 := b3.cell 0
  have d1 := b3.cell 1
  simp only [wv, List.getElem?_toArray, List.getElem?_cons_zero, List.getElem?_cons_succ] at d0 d1
  have H0 := hide b3
  obtain ⟨S, hS⟩ : ∃ S, S = l.sum := ⟨_, rfl⟩
  rw [← hS]
  have HSS := hide hS
  clear hS b2 b3 hb2 hb3
  go_wp2_with (refine wpList_store_blk rfl 81 (.tmp 2) (.tmp 4) rfl (w.heap.size + 1) rfl (wv 0) (wv S) rfl H0.out rfl info81 (wv_one S) ?_)
  exact bodyPost_ret_by (results_cell rfl _ (w.heap.size + 1) rfl (wv S) _ (H0.out.setRow _) Try.underlying81 rfl info81) rfl ⟨by rw [HSS.out], below_setRow hb (by omega) _⟩
end Go.Proofs.Ytoammbfipinejaa
