/- Parts HistB, HistC, HistD0, HistE, Ra, Rb, Rc, Rd, Re, Rf, Rg, Rh, Ri, Rj2 of the proof, put together. -/
import Derived.Test.YtbjmdnemeidpjaaGreatM6
import Derived.Laws.Externs
import Derived.Deep.RegionHeld3
/- Histograms: valid, Add. -/
namespace Go.Proofs.YtbjmdnemeidpjaaGreat
open Go.RowKit
set_option linter.unusedVariables false
set_option linter.unusedSimpArgs false
theorem index_h (l : List Int) (k : Nat) (x : Int) (w : World) (hk : k < 65) (hx : l[k]? = some x) :
    (Instr.index 39 (.agg (hc l)) (.int .i64 (k : Int))).run Tryz.prog w = .ok (.int .i64 x) w := by
  have hp : (hc l)[k]? = some (.int .i64 x) := by rw [hc_get, hx]; rfl
  have hu := run_underlying Tryz.underlying39 w
  have hagg : (isAgg 2).run Tryz.prog w = .ok false w := by kernel_rfl
  have hsz : (sizeOf 2).run Tryz.prog w = .ok 1 w := by kernel_rfl
  unfold Instr.index
  simp only [asIntOf, Sem.run_bind, Sem.run_pure, Result.andThen_ok, hu]
  rw [if_pos (by omega)]
  simp only [Sem.run_bind, hsz, Result.andThen_ok, Nat.mul_one]
  unfold part
  simp [Sem.run_bind, hagg, hp, Result.andThen]
theorem info69z : (Tryz.prog.info? 39).map (·.size) = some Tryz.zeroCells39.size := by kernel_rfl
theorem zero_one : Tryz.zeroCells39.all (·.oneCell') = true := by kernel_rfl
set_option maxRecDepth 100000 in
theorem valid_any (l : List Int) (w : World) (hl : l.length = 65) :
    Calls Tryz.prog 74 #[.agg (hc l)] w fun e w' => e = .returned (.bool (l.all (fun x => decide (0 ≤ x)))) ∧ Below w.heap.size w w' := by
  have H9 := hide hl
  have hb := Blk.new w 39 (hc l)
  have H1 := hide hb
  clear hb
  go_enter Tryz.func74, Tryz.ntmps74
  go_wp2_with (refine wpList_load_blk rfl 39 (.tmp 1) rfl _ rfl (hc l) _ H1.out Tryz.underlying39 rfl (info69l H9.out) ?_)
  clear H1
  have hbl : Below w.heap.size w (w.alloc (.cells (hc l) 39)) := (Below.refl _ _).alloc (Nat.le_refl _) _
  generalize w.alloc (.cells (hc l) 39) = w1 at hbl ⊢
  go_loopw [2, 4, 6] (fun _ _ i wr => ∃ (k : Nat), k ≤ 65 ∧ i = .int .i64 k ∧ wr = w1 ∧ Hid ((l.take k).all (fun x => decide (0 ≤ x)) = true)) (fun _ _ i _ => 65 - (intOf i).toNat)
  case atStart => exact ⟨0, by omega, rfl, rfl, hide (by simp)⟩
  case round =>
    obtain ⟨k, hk, rfl, rfl, HK⟩ := hrel
    by_cases hk1 : k < 65
    · obtain ⟨x, hx⟩ : ∃ x, l[k]? = some x := ⟨l[k], List.getElem?_eq_getElem (by omega)⟩
      have hix := fun w => index_h l k x w hk1 hx
      have HX := hide hx
      clear hx
      by_cases h0 : x < 0
      · go_wp2_with fail
        go_ret
        refine ⟨ret_bool ?_, hbl⟩
        symm
        rw [List.all_eq_false]
        exact ⟨x, List.mem_of_getElem? HX.out, by simpa using h0⟩
      · go_wp2_with fail
        go_roundw
        case rel => exact ⟨k + 1, by omega, by go_num, trivial, hide (by rw [List.take_add_one, HX.out, List.all_append, HK.out]; simp; omega)⟩
        case measure => simp [intOf]; omega
    · have htk : l.take k = l := List.take_of_length_le (by have := H9.out; omega)
      have hs := HK.out
      rw [htk] at hs
      have HS := hide hs
      clear hs HK
      go_wp2_with fail
      go_ret
      exact ⟨ret_bool HS.out.symm, hbl⟩
def okH (l : List Int) : Bool := l.all (fun x => decide (0 ≤ x))
def addE (l : List Int) (v : Int) : Nat := if okH l = false then 10 else if l[bkt v]? = some 9223372036854775807 then 12 else 0
def addL (l : List Int) (v : Int) : List Int := if addE l v = 0 then bump l (bkt v) else z65
set_option maxHeartbeats 1000000 in
set_option maxRecDepth 100000 in
theorem add_any (l : List Int) (v : Int) (w : World) (hl : l.length = 65) (h1 : -9223372036854775808 ≤ v) (h2 : v ≤ 9223372036854775807) (hw : ∀ x ∈ l, x ≤ 9223372036854775807) :
    Calls Tryz.prog 54 #[.agg (hc l), .int .i64 v] w fun e w' => e = .returned (.tuple #[.agg (hc (addL l v)), .int .i64 (addE l v)]) ∧ Below w.heap.size w w' := by
  have H9 := hide hl
  have HB := hide (fun w => bucket_any v w h1 h2)
  have hlt := bkt_lt v h2
  have HE : Hid (addE l v = if okH l = false then 10 else if l[bkt v]? = some 9223372036854775807 then 12 else 0) := hide rfl
  have HL : Hid (addL l v = if addE l v = 0 then bump l (bkt v) else z65) := hide rfl
  obtain ⟨y, hy⟩ : ∃ y, l[bkt v]? = some y := ⟨l[bkt v], List.getElem?_eq_getElem (by omega)⟩
  have hyb := hw y (List.mem_of_getElem? hy)
  have HY := hide hy
  have HV := hide (fun w => valid_any l w hl)
  clear hw hy h1 h2
  generalize addE l v = E at *
  generalize addL l v = L at *
  generalize bkt v = b at *
  have HO : Hid (okH l = l.all (fun x => decide (0 ≤ x))) := hide rfl
  generalize hq : okH l = q at *
  rw [← HO.out] at HV
  have H1 := hide ((Blk.new w 39 (hc l)).alloc (.cells Tryz.zeroCells39 39))
  have H2 := hide (by simpa using Blk.new (w.alloc (.cells (hc l) 39)) 39 Tryz.zeroCells39 : Blk ((w.alloc (.cells (hc l) 39)).alloc (.cells Tryz.zeroCells39 39)) (w.heap.size + 1) 39 Tryz.zeroCells39)
  have hb2 := hide (show Below w.heap.size w ((w.alloc (.cells (hc l) 39)).alloc (.cells Tryz.zeroCells39 39)) from ((Below.refl _ _).alloc (Nat.le_refl _) _).alloc (by simp) _)
  cases q with
  | false =>
    have he := HE.out
    rw [if_pos rfl] at he
    have hL := HL.out
    rw [he, if_neg (by omega)] at hL
    subst he; subst hL
    clear HE HL
    go_enter Tryz.func54, Tryz.ntmps54
    go_wp2_with (first
      | refine wpList_load_blk rfl 39 (.tmp 2) rfl _ rfl (hc l) _ H1.out Tryz.underlying39 rfl (info69l H9.out) ?_
      | (go_at_call 74; refine (HV.out _).mono ?_; rintro e w3 ⟨rfl, hb3⟩; have H23 := hide (H2.out.next hb3); have HB3 := hide (hb2.out.trans (hb3.mono hb2.out.size)); clear hb3)
      | refine wpList_store_blk rfl 39 (.tmp 4) (.tmp 10) rfl _ rfl Tryz.zeroCells39 Tryz.zeroCells39 rfl H23.out rfl info69z zero_one ?_)
    exact bodyPost_ret_by (results_cell2 rfl _ (w.heap.size + 1) rfl Tryz.zeroCells39 _ (H23.out.setRow _) Tryz.underlying39 rfl info69z) rfl ⟨by rw [hc_z65]; rfl, below_setRow HB3.out (by omega) _⟩
  | true =>
    have he := HE.out
    rw [if_neg (by simp), HY.out] at he
    by_cases hm : y = 9223372036854775807
    · subst hm
      rw [if_pos rfl] at he
      have hL := HL.out
      rw [he, if_neg (by omega)] at hL
      subst he; subst hL
      clear HE HL
      go_enter Tryz.func54, Tryz.ntmps54
      go_wp2_with (first
      | refine wpList_load_blk rfl 39 (.tmp 2) rfl _ rfl (hc l) _ H1.out Tryz.underlying39 rfl (info69l H9.out) ?_
      | (go_at_call 74; refine (HV.out _).mono ?_; rintro e w3 ⟨rfl, hb3⟩; have H13 := H1.out.next hb3; have c1 := H13.cell b; rw [hc_get, HY.out] at c1; simp only [Option.map_some, i64v] at c1; have f1 := H13.frozen b; have H13' := hide H13; clear H13; have H23 := hide (H2.out.next hb3); have HB3 := hide (hb2.out.trans (hb3.mono hb2.out.size)); clear hb3)
      | (go_at_call 56; refine (HB.out _).mono ?_; rintro e w' ⟨rfl, rfl⟩)
      | refine wpList_store_blk rfl 39 (.tmp 4) (.tmp 17) rfl _ rfl Tryz.zeroCells39 Tryz.zeroCells39 rfl H23.out rfl info69z zero_one ?_)
      exact bodyPost_ret_by (results_cell2 rfl _ (w.heap.size + 1) rfl Tryz.zeroCells39 _ (H23.out.setRow _) Tryz.underlying39 rfl info69z) rfl ⟨by rw [hc_z65]; rfl, below_setRow HB3.out (by omega) _⟩
    · rw [if_neg (by intro h; injection h with h; exact hm h)] at he
      have hL := HL.out
      rw [he, if_pos rfl, bump, HY.out] at hL
      subst he
      have HL2 := hide hL
      have HLL := hide (show L.length = 65 by rw [hL, List.length_set, H9.out])
      clear HE HL hL
      have hme : (y == 9223372036854775807) = false := by simpa using hm
      have hy0 : 0 ≤ y := by simpa using (List.all_eq_true.1 HO.out.symm) y (List.mem_of_getElem? HY.out)
      have hy1 : y < 9223372036854775807 := by omega
      clear hm hyb
      go_enter Tryz.func54, Tryz.ntmps54
      go_wp2_with (first
      | refine wpList_load_blk rfl 39 (.tmp 2) rfl _ rfl (hc l) _ H1.out Tryz.underlying39 rfl (info69l H9.out) ?_
      | (go_at_call 74; refine (HV.out _).mono ?_; rintro e w3 ⟨rfl, hb3⟩; have H13 := H1.out.next hb3; have c1 := H13.cell b; rw [hc_get, HY.out] at c1; simp only [Option.map_some, i64v] at c1; have f1 := H13.frozen b; have H13' := hide H13; clear H13; have H23 := hide (H2.out.next hb3); have HB3 := hide (hb2.out.trans (hb3.mono hb2.out.size)); clear hb3)
      | (go_at_call 56; refine (HB.out _).mono ?_; rintro e w' ⟨rfl, rfl⟩)
      | (refine wpList_load_blk rfl 39 (.tmp 2) rfl w.heap.size rfl (hc L) _ (by rw [HL2.out]; have h := H13'.out.set_ b (.int .i64 (y + 1)); rw [hc_set] at h; exact h) Tryz.underlying39 rfl (info69l HLL.out) ?_)
      | (refine wpList_store_blk rfl 39 (.tmp 4) (.tmp 23) rfl (w.heap.size + 1) rfl Tryz.zeroCells39 (hc L) rfl (H23.out.far (by simp) _) (by rw [hc_size, HLL.out]; rfl) (info69l HLL.out) (hc_one L) ?_))
      exact bodyPost_ret_by (results_cell2 rfl _ (w.heap.size + 1) rfl (hc L) _ ((H23.out.far (p := ⟨w.heap.size, b, none⟩) (by simp) (.int .i64 (y + 1))).setRow _) Tryz.underlying39 rfl (info69l HLL.out)) rfl ⟨rfl, below_setRow (HB3.out.setCell (p := ⟨w.heap.size, b, none⟩) (by simp) (.int .i64 (y + 1))) (by omega) _⟩
end Go.Proofs.YtbjmdnemeidpjaaGreat
/- Wide sums: wide.Sum, Total. -/
namespace Go.Proofs.YtbjmdnemeidpjaaGreat
open Go.RowKit
set_option linter.unusedVariables false
set_option linter.unusedSimpArgs false
/-- A wide number's value. -/
def wv (S : Int) : Array Value := #[.int .i64 (S / 18446744073709551616), .int .u64 (S % 18446744073709551616)]
theorem add64_run (x y : Int) (hx : 0 ≤ x) (hy : 0 ≤ y) (w : World) : (callFunc 58 #[.int .u64 x, .int .u64 y, .int .u64 0]).run Tryz.prog w =
    .ok (.value (.tuple #[.int .u64 ((x + y) % 18446744073709551616), .int .u64 ((x + y) / 18446744073709551616)])) w := by
  rw [run_callFunc_extern Tryz.func58 (by kernel_rfl) (by kernel_rfl) (by kernel_rfl) (e := add64Entry) (by kernel_rfl), run_add64 x y 0 hx hy (by omega) (by omega)]
  simp only [Result.andThen, Int.add_zero]
theorem wv_one (S : Int) : (wv S).all (·.oneCell') = true := by
  rw [Array.all_eq_true_iff_forall_mem]
  intro v hv
  simp only [wv, List.mem_toArray, List.mem_cons, List.not_mem_nil, or_false] at hv
  rcases hv with rfl | rfl <;> rfl
theorem info81 : (Tryz.prog.info? 37).map (·.size) = some 2 := by kernel_rfl
theorem sum_hi (S x : Int) (h1 : -9223372036854775808 * 65536 ≤ S) (h2 : S ≤ 9223372036854775808 * 65536) (x1 : -9223372036854775808 ≤ x) (x2 : x ≤ 9223372036854775807) :
    wrap64 (S / 18446744073709551616 + x / 9223372036854775808 + wrap64 ((S % 18446744073709551616 + IntKind.u64.wrap x) / 18446744073709551616)) = (S + x) / 18446744073709551616 := by
  rw [u64_wrap, IntWalk.wrap64_in ((S % 18446744073709551616 + x % 18446744073709551616) / 18446744073709551616) (by constructor <;> omega), IntWalk.wrap64_in _ (by constructor <;> omega)]
  omega
theorem sum_lo (S x : Int) : (S + IntKind.u64.wrap x) % 18446744073709551616 = (S + x) % 18446744073709551616 := by
  rw [u64_wrap]; omega
set_option maxRecDepth 100000 in
theorem sum_any (A : Option Addr) (n c : Nat) (xs : List Int) (w : World) (hr : Rd w w.heap.size 1 A n (xs.map i64v)) (hn : n ≤ 65536) (hx : ∀ x ∈ xs, -9223372036854775808 ≤ x ∧ x ≤ 9223372036854775807) :
    Calls Tryz.prog 37 #[.slice A n c] w fun e w' => e = .returned (.agg (wv xs.sum)) ∧ Below w.heap.size w w' := by
  have HN := hide hr.len
  have HX := hide hx
  clear hx
  go_enter Tryz.func37, Tryz.ntmps37
  go_wp2_with fail
  go_loopw [5, 6, 7, 10] (fun _ _ _ i wr => ∃ (k : Nat) (S : Int), k ≤ n ∧ i = .int .i64 k ∧ Blk wr w.heap.size 37 (wv 0) ∧ Blk wr (w.heap.size + 1) 37 (wv S) ∧ Below w.heap.size w wr ∧ Hid (S = (xs.take k).sum) ∧ -9223372036854775808 * (k : Int) ≤ S ∧ S ≤ 9223372036854775808 * (k : Int)) (fun _ _ _ i _ => n - (intOf i).toNat)
  case atStart =>
    exact ⟨0, 0, Nat.zero_le _, rfl, (Blk.new _ _ _).alloc _, by rw [← show (w.alloc (.cells (wv 0) 37)).heap.size = w.heap.size + 1 by simp]; exact Blk.new _ _ _, ((Below.refl _ _).alloc (Nat.le_refl _) _).alloc (by simp) _, hide rfl, by omega, by omega⟩
  case round =>
    obtain ⟨k, S, hk, rfl, b0, b1, hb, HS, hS1, hS2⟩ := hrel
    by_cases hk1 : k < n
    · obtain ⟨ba, off, rfl, hbb, x, hx, hcell⟩ := hr.get hk1
      have hc' := (hb.cell (p := ⟨ba, off + k, none⟩) hbb).trans hcell
      unfold i64v at hc'
      have HX1 := hide hx
      have hxl := HX.out x (List.mem_of_getElem? hx)
      have c0 := b1.cell 0
      have c1 := b1.cell 1
      simp only [wv, List.getElem?_toArray, List.getElem?_cons_zero, List.getElem?_cons_succ] at c0 c1
      have f0 := b1.frozen 0
      have f1 := b1.frozen 1
      have H0 := hide b0
      have H1 := hide b1
      have HA := hide (fun w => add64_run (S % 18446744073709551616) (IntKind.u64.wrap x) (by omega) (by rw [u64_wrap]; omega) w)
      clear b0 b1 hx hcell
      go_wp2_with (simp only [HA.out])
      go_roundw
      case rel =>
        rw [sum_hi S x (by omega) (by omega) hxl.1 hxl.2, sum_lo]
        refine ⟨k + 1, S + x, by omega, by go_num, (H0.out.far (by simp) _).far (by simp) _, ?_, (hb.setCell (by simp) _).setCell (by simp) _, hide ?_, by omega, by omega⟩
        · exact (H1.out.set_ 0 (.int .i64 ((S + x) / 18446744073709551616))).set_ 1 (.int .u64 ((S + x) % 18446744073709551616))
        · rw [HS.out, List.take_add_one, HX1.out, List.sum_append]
          simp
      case measure => simp [intOf]; omega
    · have htk : xs.take k = xs := List.take_of_length_le (by have := HN.out; omega)
      have hs := HS.out
      rw [htk] at hs
      subst hs
      have c0 := b1.cell 0
      have c1 := b1.cell 1
      simp only [wv, List.getElem?_toArray, List.getElem?_cons_zero, List.getElem?_cons_succ] at c0 c1
      have f0 := b0.frozen 0
      have f1 := b0.frozen 1
      have d0 := b0.cell 0
      have d1 := b0.cell 1
      simp only [wv, List.getElem?_toArray, List.getElem?_cons_zero, List.getElem?_cons_succ] at d0 d1
      have H0 := hide b0
      clear b0 b1 HS hS1 hS2
      obtain ⟨S, hS⟩ : ∃ S, S = xs.sum := ⟨_, rfl⟩
      rw [← hS] at c0 c1
      have HSS := hide hS
      clear hS
      go_wp2_with fail
      exact bodyPost_ret_by (results_cell rfl _ w.heap.size rfl (wv S) _ ((H0.out.set_ 0 (.int .i64 (S / 18446744073709551616))).set_ 1 (.int .u64 (S % 18446744073709551616))) Tryz.underlying37 rfl info81) rfl ⟨by rw [HSS.out], (hb.setCell (by simp) _).setCell (by simp) _⟩
set_option maxRecDepth 100000 in
theorem total_any (l : List Int) (w : World) (hl : l.length = 65) (hx : ∀ x ∈ l, -9223372036854775808 ≤ x ∧ x ≤ 9223372036854775807) :
    Calls Tryz.prog 55 #[.agg (hc l)] w fun e w' => e = .returned (.agg (wv l.sum)) ∧ Below w.heap.size w w' := by
  have HX := hide hx
  clear hx
  go_enter Tryz.func55, Tryz.ntmps55
  go_wp2_with fail
  have hb2 : Below w.heap.size w ((w.alloc (.cells (hc l) 39)).alloc (.cells (wv 0) 37)) := ((Below.refl _ _).alloc (Nat.le_refl _) _).alloc (by simp) _
  have b2 : Blk ((w.alloc (.cells (hc l) 39)).alloc (.cells (wv 0) 37)) (w.heap.size + 1) 37 (wv 0) := by
    rw [← show (w.alloc (.cells (hc l) 39)).heap.size = w.heap.size + 1 by simp]; exact Blk.new _ _ _
  refine (sum_any (some ⟨w.heap.size, 0, none⟩) 65 65 l _ (Rd.alloc' (Rd.litm w (hc l) 39 (0, 0) 65 1 (by rw [hc_size, hl]) |>.more (by simp)) _) (by omega) HX.out).mono ?_
  rintro e w3 ⟨rfl, hb3⟩
  have hb := hb2.trans (hb3.mono hb2.size)
  have b3 := b2.next hb3
  have f0 := b3.frozen 0
  have f1 := b3.frozen 1
  have d0 := b3.cell 0
  have d1 := b3.cell 1
  simp only [wv, List.getElem?_toArray, List.getElem?_cons_zero, List.getElem?_cons_succ] at d0 d1
  have H0 := hide b3
  obtain ⟨S, hS⟩ : ∃ S, S = l.sum := ⟨_, rfl⟩
  rw [← hS]
  have HSS := hide hS
  clear hS b2 b3 hb2 hb3
  go_wp2_with (refine wpList_store_blk rfl 37 (.tmp 2) (.tmp 4) rfl (w.heap.size + 1) rfl (wv 0) (wv S) rfl H0.out rfl info81 (wv_one S) ?_)
  exact bodyPost_ret_by (results_cell rfl _ (w.heap.size + 1) rfl (wv S) _ (H0.out.setRow _) Tryz.underlying37 rfl info81) rfl ⟨by rw [HSS.out], below_setRow hb (by omega) _⟩
end Go.Proofs.YtbjmdnemeidpjaaGreat
/- Wide numbers: Cmp, Of; Rank. -/
namespace Go.Proofs.YtbjmdnemeidpjaaGreat
open Go.RowKit
set_option linter.unusedVariables false
set_option linter.unusedSimpArgs false
set_option maxRecDepth 100000 in
theorem wideOf_any (v : Int) (w : World) (h1 : -9223372036854775808 ≤ v) (h2 : v ≤ 9223372036854775807) :
    Calls Tryz.prog 53 #[.int .i64 v] w fun e w' => e = .returned (.agg (wv v)) ∧ Below w.heap.size w w' := by
  go_enter Tryz.func53, Tryz.ntmps53
  go_wp2_with fail
  refine bodyPost_ret_by (results_cell rfl _ w.heap.size rfl #[.int .i64 (v / 9223372036854775808), .int .u64 (IntKind.u64.wrap v)] _ (Blk.new _ _ _) Tryz.underlying37 rfl info81) rfl ⟨?_, (Below.refl _ _).alloc (Nat.le_refl _) _⟩
  rw [wv, u64_wrap, show v / 9223372036854775808 = v / 18446744073709551616 by omega]
end Go.Proofs.YtbjmdnemeidpjaaGreat
/- Histograms: Merge. -/
namespace Go.Proofs.YtbjmdnemeidpjaaGreat
open Go.RowKit
set_option linter.unusedVariables false
set_option linter.unusedSimpArgs false
def flat (ls : List (List Int)) : List Value := (ls.map fun l => l.map i64v).flatten
theorem hflat_get : ∀ (ls : List (List Int)) (k j : Nat) (l : List Int), (∀ l ∈ ls, l.length = 65) → ls[k]? = some l → j < 65 → (flat ls)[k * 65 + j]? = l[j]?.map i64v
  | [], k, j, l, _, h, _ => by simp at h
  | x :: r, 0, j, l, hl, h, hj => by
    have hx := hl x (by simp)
    simp only [List.getElem?_cons_zero, Option.some.injEq] at h
    subst h
    unfold flat
    rw [List.map_cons, List.flatten_cons, Nat.zero_mul, Nat.zero_add, List.getElem?_append_left (by simp; omega), List.getElem?_map]
  | x :: r, k + 1, j, l, hl, h, hj => by
    have hx := hl x (by simp)
    simp only [List.getElem?_cons_succ] at h
    have ih := hflat_get r k j l (fun y hy => hl y (List.mem_cons_of_mem _ hy)) h hj
    unfold flat at ih ⊢
    rw [List.map_cons, List.flatten_cons, List.getElem?_append_right (by simp; omega), ← ih]
    congr 1
    simp
    omega
theorem hflat_len : ∀ (ls : List (List Int)), (∀ l ∈ ls, l.length = 65) → (flat ls).length = ls.length * 65
  | [], _ => by simp [flat]
  | x :: r, hl => by
    have ih := hflat_len r (fun y hy => hl y (List.mem_cons_of_mem _ hy))
    have hx := hl x (by simp)
    unfold flat at ih ⊢
    rw [List.map_cons, List.flatten_cons, List.length_append, ih, List.length_map, hx, List.length_cons]
    omega
theorem Rd.row {w : World} {B n : Nat} {A : Option Addr} {ls : List (List Int)} (h : Rd w B 65 A n (flat ls)) (hl : ∀ l ∈ ls, l.length = 65) {k : Nat} (hk : k < n) :
    ∃ b off, A = some ⟨b, off, none⟩ ∧ b < B ∧ ∃ l, ls[k]? = some l ∧ l.length = 65 ∧ w.rangeAt b (off + k * 65) (hc l).toList := by
  have hlen := h.1
  rw [hflat_len ls hl] at hlen
  obtain ⟨b, off, e, hb, hc'⟩ := h.2 (by omega)
  have hkl : k < ls.length := by omega
  have hmem := List.getElem_mem hkl
  refine ⟨b, off, e, hb, ls[k], List.getElem?_eq_getElem hkl, hl _ hmem, fun j v hv => ?_⟩
  have hv' : ls[k][j]?.map i64v = some v := by
    have : (hc ls[k]).toList[j]? = ls[k][j]?.map i64v := by simp [hc]
    rw [← this]; exact hv
  have hj : j < 65 := by
    rcases Nat.lt_or_ge j ls[k].length with h1 | h1
    · rw [hl _ hmem] at h1; exact h1
    · rw [List.getElem?_eq_none h1] at hv'; simp at hv'
  have hf := hflat_get ls k j ls[k] hl (List.getElem?_eq_getElem hkl) hj
  rw [hv'] at hf
  have h2 : k * 65 + j < (flat ls).length := (List.getElem?_eq_some_iff.1 hf).1
  have h3 := hc' (k * 65 + j) h2
  rw [Nat.add_assoc, h3]
  rw [List.getElem?_eq_getElem h2] at hf
  exact hf
def sumAt (ls : List (List Int)) (j : Nat) : Int := (ls.map fun l => l[j]?.getD 0).sum
def mergeL (ls : List (List Int)) : List Int := (List.range 65).map (sumAt ls)
def mergeE (ls : List (List Int)) : Nat := if ls.all okH = false then 10 else if (List.range 65).any (fun j => decide (9223372036854775807 < sumAt ls j)) then 12 else 0
def mergeR (ls : List (List Int)) : List Int := if mergeE ls = 0 then mergeL ls else z65
theorem sumAt_snoc {ls : List (List Int)} {k : Nat} {l : List Int} (h : ls[k]? = some l) (j : Nat) : sumAt (ls.take (k + 1)) j = sumAt (ls.take k) j + l[j]?.getD 0 := by
  unfold sumAt
  rw [List.take_add_one, h, List.map_append, List.sum_append]
  simp
theorem okH_at {l : List Int} (h : okH l = true) (j : Nat) : 0 ≤ l[j]?.getD 0 := by
  unfold okH at h
  rw [List.all_eq_true] at h
  cases hj : l[j]? with
  | none => simp
  | some x => simpa using h x (List.mem_of_getElem? hj)
theorem sumAt_nonneg : ∀ (ls : List (List Int)) (j : Nat), ls.all okH = true → 0 ≤ sumAt ls j
  | [], j, _ => by simp [sumAt]
  | l :: r, j, h => by
    rw [List.all_cons, Bool.and_eq_true] at h
    have h1 := sumAt_nonneg r j h.2
    have h2 := okH_at h.1 j
    unfold sumAt at h1 ⊢
    rw [List.map_cons, List.sum_cons]
    omega
end Go.Proofs.YtbjmdnemeidpjaaGreat
/- Numbers of any length, in limbs (the document's), by conditions. -/
namespace Go.Proofs.YtbjmdnemeidpjaaGreat
set_option linter.unusedSimpArgs false
set_option linter.unusedVariables false
open Go.RowKit
set_option maxRecDepth 100000
abbrev lR (d : Int) : List D := [iD d]
abbrev lD (l : List Int) : D := .sl 1 (l.map lR)
/-- Limbs without noughts at the top. -/
def topN (l : List Int) : Nat → Nat
  | 0 => 0
  | n + 1 => if (l[n]?).getD 0 = 0 then topN l n else n + 1
def trimL (l : List Int) : List Int := l.take (topN l l.length)
theorem lD_take (l : List Int) (n : Nat) : lD (l.take n) = .sl 1 ((l.map lR).take n) := by unfold lD; rw [List.map_take]
theorem limb_sat (l : List Int) (i : Nat) : Sat Tryz.prog 101 [.d (lD l), iA i] [] (iA ((l[i]?).getD 0)) [] := by
  by_cases h : i < l.length
  · have hx : l[i]? = some l[i] := List.getElem?_eq_getElem h
    generalize l[i] = x at hx
    rw [hx]
    refine sat_of_vc (T := tiOf Tryz.prog) (E := E0) Tryz.func101 rfl rfl hE0 hm0 rfl ?_
    conv => whnf
    repeat' (first | exact True.intro | ((first | refine ⟨i, _, rfl, map_get hx, ?_⟩ | refine Or.inl ?_ | refine And.intro (fun _ => ?_) tf | refine And.intro ft (fun _ => ?_) | refine And.intro (by kernel_rfl) ?_ | refine And.intro (by decide) ?_ | refine And.intro (fun _ => ?_) (fun h => absurd h (by decide)) | refine And.intro (fun h => absurd h (by decide)) (fun _ => ?_) | fail); conv => whnf) | (refine And.intro (fun _ => ?_) (fun _ => ?_) <;> conv => whnf) | fail)
    all_goals try (exfalso; simp only [decide_eq_true_eq, decide_eq_false_iff_not, Bool.not_eq_true', Bool.not_eq_false', Bool.not_eq_true, Bool.not_eq_false, beq_iff_eq, bne_iff_ne, beq_eq_false_iff_ne, bne_eq_false_iff_eq, ne_eq, Decidable.not_not] at *; first | omega | contradiction | (simp_all; done) | (simp_all; omega))
    all_goals refine ⟨[], ?_⟩
    repeat (any_goals (first | exact True.intro | exact rfl | with_reducible_and_instances rfl | exact (by kernel_rfl) | refine And.intro ?_ ?_))
    all_goals conv => whnf
  · rw [List.getElem?_eq_none (by omega)]
    refine sat_of_vc (T := tiOf Tryz.prog) (E := E0) Tryz.func101 rfl rfl hE0 hm0 rfl ?_
    conv => whnf
    repeat' (first | exact True.intro | ((first | refine Or.inl ?_ | refine And.intro (fun _ => ?_) tf | refine And.intro ft (fun _ => ?_) | refine And.intro (by kernel_rfl) ?_ | refine And.intro (by decide) ?_ | refine And.intro (fun _ => ?_) (fun h => absurd h (by decide)) | refine And.intro (fun h => absurd h (by decide)) (fun _ => ?_) | fail); conv => whnf) | (refine And.intro (fun _ => ?_) (fun _ => ?_) <;> conv => whnf) | fail)
    all_goals try (exfalso; simp only [decide_eq_true_eq, decide_eq_false_iff_not, Bool.not_eq_true', Bool.not_eq_false', Bool.not_eq_true, Bool.not_eq_false, beq_iff_eq, bne_iff_ne, beq_eq_false_iff_ne, bne_eq_false_iff_eq, ne_eq, Decidable.not_not] at *; first | omega | contradiction | (simp_all; done) | (simp_all; omega))
    all_goals refine ⟨[], ?_⟩
    repeat (any_goals (first | exact True.intro | exact rfl | with_reducible_and_instances rfl | exact (by kernel_rfl) | refine And.intro ?_ ?_))
    all_goals conv => whnf
theorem trim_sat (l : List Int) (hn : l.length ≤ 4611686018427387904) : Sat Tryz.prog 100 [.d (lD l)] [] (.d (lD (trimL l))) [] := by
  refine sat_of_vc (T := tiOf Tryz.prog) (E := E0) Tryz.func100 rfl rfl hE0 hm0 rfl ?_
  conv => whnf
  repeat' (first | exact True.intro | ((first | refine And.intro (fun _ => ?_) tf | refine And.intro ft (fun _ => ?_) | refine And.intro (by kernel_rfl) ?_ | refine And.intro (by decide) ?_ | refine And.intro (fun _ => ?_) (fun h => absurd h (by decide)) | refine And.intro (fun h => absurd h (by decide)) (fun _ => ?_) | fail); conv => whnf) | (refine And.intro (fun _ => ?_) (fun _ => ?_) <;> conv => whnf) | fail)
  all_goals try (refine Or.inl ?_; conv => whnf)
  repeat' (first | exact True.intro | ((first | refine And.intro (fun _ => ?_) tf | refine And.intro ft (fun _ => ?_) | refine And.intro (by kernel_rfl) ?_ | refine And.intro (by decide) ?_ | refine And.intro (fun _ => ?_) (fun h => absurd h (by decide)) | refine And.intro (fun h => absurd h (by decide)) (fun _ => ?_) | fail); conv => whnf) | (refine And.intro (fun _ => ?_) (fun _ => ?_) <;> conv => whnf) | fail)
  refine ⟨Nat, fun n => n ≤ l.length ∧ topN l n = topN l l.length, fun n => ([(3, iA n), (0, .d (lD l))], []), fun n => n, ⟨l.length, ⟨Nat.le_refl _, rfl⟩, ?_⟩, ?_⟩
  · all_goals refine ⟨[], ?_⟩
    repeat (any_goals (first | exact True.intro | exact rfl | with_reducible_and_instances rfl | exact (by kernel_rfl) | refine And.intro ?_ ?_))
    all_goals conv => whnf
    rw [List.length_map]
  rintro n ⟨h1, h2⟩
  conv => whnf
  cases n with
  | zero =>
    repeat' (first | exact True.intro | ((first | refine Or.inl ?_ | refine And.intro (fun _ => ?_) tf | refine And.intro ft (fun _ => ?_) | refine And.intro (by kernel_rfl) ?_ | refine And.intro (by decide) ?_ | refine And.intro (fun _ => ?_) (fun h => absurd h (by decide)) | refine And.intro (fun h => absurd h (by decide)) (fun _ => ?_) | refine ⟨_, _, upto_d 1 8 (by kernel_rfl) (Nat.zero_le _), ?_⟩ | fail); conv => whnf) | (refine And.intro (fun _ => ?_) (fun _ => ?_) <;> conv => whnf) | fail)
    all_goals try (exfalso; simp only [decide_eq_true_eq, decide_eq_false_iff_not, Bool.not_eq_true', Bool.not_eq_false', Bool.not_eq_true, Bool.not_eq_false, beq_iff_eq, bne_iff_ne, beq_eq_false_iff_ne, bne_eq_false_iff_eq, ne_eq, Decidable.not_not] at *; first | omega | contradiction | (simp_all; done) | (simp_all; omega))
    have hr : trimL l = l.take 0 := by unfold trimL; rw [← h2]; rfl
    rw [hr, lD_take]
    all_goals refine ⟨[], ?_⟩
    repeat (any_goals (first | exact True.intro | exact rfl | with_reducible_and_instances rfl | exact (by kernel_rfl) | refine And.intro ?_ ?_))
    all_goals conv => whnf
  | succ n =>
    have hx : l[n]? = some l[n] := List.getElem?_eq_getElem (by omega)
    generalize l[n] = x at hx
    have hw : IntKind.i64.wrap (((n + 1 : Nat) : Int) - 1) = (n : Int) := by rw [wi (by omega) (by omega)]; omega
    have ht : topN l (n + 1) = if x = 0 then topN l n else n + 1 := by rw [topN, hx]; rfl
    repeat' (first | exact True.intro | ((first | refine ⟨n, _, hw, map_get hx, ?_⟩ | refine Or.inl ?_ | refine And.intro (fun _ => ?_) tf | refine And.intro ft (fun _ => ?_) | refine And.intro (by kernel_rfl) ?_ | refine And.intro (by decide) ?_ | refine And.intro (fun _ => ?_) (fun h => absurd h (by decide)) | refine And.intro (fun h => absurd h (by decide)) (fun _ => ?_) | refine ⟨_, _, upto_d 1 8 (by kernel_rfl) (by rw [List.length_map]; exact h1), ?_⟩ | fail); conv => whnf) | (refine And.intro (fun _ => ?_) (fun _ => ?_) <;> conv => whnf) | fail)
    all_goals try (exfalso; simp only [decide_eq_true_eq, decide_eq_false_iff_not, Bool.not_eq_true', Bool.not_eq_false', Bool.not_eq_true, Bool.not_eq_false, beq_iff_eq, bne_iff_ne, beq_eq_false_iff_ne, bne_eq_false_iff_eq, ne_eq, Decidable.not_not] at *; first | omega | contradiction | (simp_all; done) | (simp_all; omega))
    · have h0 : x = 0 := (by (try simp only [decide_eq_true_eq, decide_eq_false_iff_not, Bool.not_eq_true', Bool.not_eq_false', Bool.not_eq_true, Bool.not_eq_false, beq_iff_eq, bne_iff_ne, beq_eq_false_iff_ne, bne_eq_false_iff_eq, ne_eq, Decidable.not_not, Int.natCast_eq_zero] at *); first | omega | assumption | (simp_all; done) | (simp_all; omega))
      refine ⟨n, ⟨by omega, by rw [← h2, ht, if_pos h0]⟩, Nat.lt_succ_self n, ?_⟩
      all_goals refine ⟨[], ?_⟩
      repeat (any_goals (first | exact True.intro | exact rfl | with_reducible_and_instances rfl | exact (by kernel_rfl) | refine And.intro ?_ ?_))
      all_goals conv => whnf
      rw [hw]
    · have h0 : ¬ x = 0 := (by (try simp only [decide_eq_true_eq, decide_eq_false_iff_not, Bool.not_eq_true', Bool.not_eq_false', Bool.not_eq_true, Bool.not_eq_false, beq_iff_eq, bne_iff_ne, beq_eq_false_iff_ne, bne_eq_false_iff_eq, ne_eq, Decidable.not_not, Int.natCast_eq_zero] at *); first | omega | assumption | (simp_all; done) | (simp_all; omega))
      have hr : trimL l = l.take (n + 1) := by unfold trimL; rw [← h2, ht, if_neg h0]
      rw [hr, lD_take]
      all_goals refine ⟨[], ?_⟩
      repeat (any_goals (first | exact True.intro | exact rfl | with_reducible_and_instances rfl | exact (by kernel_rfl) | refine And.intro ?_ ?_))
      all_goals conv => whnf
abbrev nD (neg : Bool) (l : List Int) : D := .agg [.v (.bool neg), lD l]
theorem made_sat (neg : Bool) (l : List Int) (hn : l.length ≤ 4611686018427387904) : Sat Tryz.prog 80 [bA neg, .d (lD l)] [] (.d (nD (neg && decide (0 < (trimL l).length)) (trimL l))) [] := by
  refine sat_of_vc (T := tiOf Tryz.prog) (E := E0) Tryz.func80 rfl rfl hE0 hm0 rfl ?_
  conv => whnf
  repeat' (first | exact True.intro | ((first | refine Or.inl ?_ | refine And.intro (fun _ => ?_) tf | refine And.intro ft (fun _ => ?_) | refine And.intro (by kernel_rfl) ?_ | refine And.intro (by decide) ?_ | refine And.intro (fun _ => ?_) (fun h => absurd h (by decide)) | refine And.intro (fun h => absurd h (by decide)) (fun _ => ?_) | refine ⟨_, _, (trim_sat l hn).pu rfl rfl, ?_⟩ | fail); conv => whnf) | (refine And.intro (fun _ => ?_) (fun _ => ?_) <;> conv => whnf) | fail)
  · have hb : (neg && decide (0 < (trimL l).length)) = decide ((((trimL l).map lR).length : Int) > 0) := by
      rw [List.length_map, show neg = true by assumption]
      simp
    rw [hb]
    all_goals refine ⟨[], ?_⟩
    repeat (any_goals (first | exact True.intro | exact rfl | with_reducible_and_instances rfl | exact (by kernel_rfl) | refine And.intro ?_ ?_))
    all_goals conv => whnf
  · have hb : (neg && decide (0 < (trimL l).length)) = false := by rw [show neg = false by assumption]; rfl
    rw [hb]
    all_goals refine ⟨[], ?_⟩
    repeat (any_goals (first | exact True.intro | exact rfl | with_reducible_and_instances rfl | exact (by kernel_rfl) | refine And.intro ?_ ?_))
    all_goals conv => whnf
/-- Four limbs. -/
def limb4 (v : Int) : Nat → List Int
  | 0 => []
  | n + 1 => v % 65536 :: limb4 (v / 65536) n
theorem whole_sat (v : Int) (h0 : 0 ≤ v) (h1 : v ≤ 18446744073709551615) : Sat Tryz.prog 85 [.d (.v (.int .u64 v))] [] (.d (nD false (trimL (limb4 v 4)))) [] := by
  have mk := made_sat false (limb4 v 4) (by simp [limb4])
  refine sat_of_vc (T := tiOf Tryz.prog) (E := E0) Tryz.func85 rfl rfl hE0 hm0 rfl ?_
  conv => whnf
  repeat' (first | exact True.intro | ((first | refine And.intro (fun _ => ?_) tf | refine And.intro ft (fun _ => ?_) | refine And.intro (by kernel_rfl) ?_ | refine And.intro (by decide) ?_ | refine And.intro (fun _ => ?_) (fun h => absurd h (by decide)) | refine And.intro (fun h => absurd h (by decide)) (fun _ => ?_) | fail); conv => whnf) | (refine And.intro (fun _ => ?_) (fun _ => ?_) <;> conv => whnf) | fail)
  all_goals try (refine Or.inl ?_; conv => whnf)
  repeat' (first | exact True.intro | ((first | refine And.intro (fun _ => ?_) tf | refine And.intro ft (fun _ => ?_) | refine And.intro (by kernel_rfl) ?_ | refine And.intro (by decide) ?_ | refine And.intro (fun _ => ?_) (fun h => absurd h (by decide)) | refine And.intro (fun h => absurd h (by decide)) (fun _ => ?_) | fail); conv => whnf) | (refine And.intro (fun _ => ?_) (fun _ => ?_) <;> conv => whnf) | fail)
  refine ⟨Nat × Int × List Int, fun y => y.1 ≤ 4 ∧ 0 ≤ y.2.1 ∧ y.2.1 ≤ 18446744073709551615 ∧ limb4 v 4 = y.2.2 ++ limb4 y.2.1 (4 - y.1) ∧ y.2.2.length = y.1, fun y => ([(4, iA y.1), (3, .own 1), (2, .ptr 0 0), (0, .d (.v (.int .u64 y.2.1)))], [.cells [bA false, .d (.v (.slice none 0 0))], .sl 1 (y.2.2.map lR)]), fun y => 4 - y.1, ⟨(0, v, []), ⟨Nat.zero_le _, h0, h1, rfl, rfl⟩, ?_⟩, ?_⟩
  · all_goals refine ⟨[], ?_⟩
    repeat (any_goals (first | exact True.intro | exact rfl | with_reducible_and_instances rfl | exact (by kernel_rfl) | refine And.intro ?_ ?_))
    all_goals conv => whnf
  rintro ⟨k, w, done⟩ ⟨hk, hw0, hw1, hl, hdl⟩
  have hk : k ≤ 4 := hk
  have hw0 : 0 ≤ w := hw0
  have hw1 : w ≤ 18446744073709551615 := hw1
  have hl : limb4 v 4 = done ++ limb4 w (4 - k) := hl
  have hdl : done.length = k := hdl
  conv => whnf
  by_cases hlt : k < 4
  · repeat' (first | exact True.intro | ((first | refine And.intro (fun _ => ?_) (fun h => absurd h (by simp; omega)) | refine Or.inl ?_ | refine And.intro (fun _ => ?_) tf | refine And.intro ft (fun _ => ?_) | refine And.intro (by kernel_rfl) ?_ | refine And.intro (by decide) ?_ | refine And.intro (fun _ => ?_) (fun h => absurd h (by decide)) | refine And.intro (fun h => absurd h (by decide)) (fun _ => ?_) | refine ⟨_, _, ap 1 8 (by kernel_rfl) rfl rfl (by simp; omega), ?_⟩ | fail); conv => whnf) | (refine And.intro (fun _ => ?_) (fun _ => ?_) <;> conv => whnf) | fail)
    have e1 : IntKind.u64.wrap (w.tdiv 65536) = w / 65536 := by rw [Int.tdiv_eq_ediv_of_nonneg hw0, IntKind.wrap_u64]; omega
    have e2 : IntKind.i64.wrap (w.tmod 65536) = w % 65536 := by rw [Int.tmod_eq_emod_of_nonneg hw0, wi (by omega) (by omega)]
    have e3 : limb4 w (4 - k) = w % 65536 :: limb4 (w / 65536) (4 - (k + 1)) := by rw [show 4 - k = (4 - (k + 1)) + 1 by omega, limb4]
    refine ⟨(k + 1, w / 65536, done ++ [w % 65536]), ⟨hlt, show 0 ≤ w / 65536 by omega, show w / 65536 ≤ _ by omega, show limb4 v 4 = (done ++ [w % 65536]) ++ limb4 (w / 65536) (4 - (k + 1)) by rw [hl, e3, List.append_assoc]; rfl, show (done ++ [w % 65536]).length = k + 1 by simp [hdl]⟩, show 4 - (k + 1) < 4 - k by omega, ?_⟩
    all_goals refine ⟨[(1, 3)], ?_⟩
    repeat (any_goals (first | exact True.intro | exact rfl | with_reducible_and_instances rfl | exact (by kernel_rfl) | refine And.intro ?_ ?_))
    all_goals conv => whnf
    · exact wk1 (show k ≤ _ by omega)
    · show AV.d (.v (.int .u64 (IntKind.u64.wrap (w.tdiv 65536)))) = .d (.v (.int .u64 (w / 65536)))
      rw [e1]
    · show AObj.sl 1 (done.map lR ++ [[.v (.int .i64 (IntKind.i64.wrap (w.tmod 65536)))]]) = .sl 1 ((done ++ [w % 65536]).map lR)
      rw [e2, List.map_append]; rfl
  · have hk4 : k = 4 := by omega
    subst hk4
    rw [Nat.sub_self, limb4, List.append_nil] at hl
    rw [hl] at mk
    repeat' (first | exact True.intro | ((first | refine Or.inl ?_ | refine And.intro (fun _ => ?_) tf | refine And.intro ft (fun _ => ?_) | refine And.intro (by kernel_rfl) ?_ | refine And.intro (by decide) ?_ | refine And.intro (fun _ => ?_) (fun h => absurd h (by decide)) | refine And.intro (fun h => absurd h (by decide)) (fun _ => ?_) | refine ⟨_, _, frz_b mk rfl rfl, ?_⟩ | fail); conv => whnf) | (refine And.intro (fun _ => ?_) (fun _ => ?_) <;> conv => whnf) | fail)
    all_goals try (exfalso; simp only [decide_eq_true_eq, decide_eq_false_iff_not, Bool.not_eq_true', Bool.not_eq_false', Bool.not_eq_true, Bool.not_eq_false, beq_iff_eq, bne_iff_ne, beq_eq_false_iff_ne, bne_eq_false_iff_eq, ne_eq, Decidable.not_not] at *; first | omega | contradiction | (simp_all; done) | (simp_all; omega))
    rw [hl]
    all_goals refine ⟨[], ?_⟩
    repeat (any_goals (first | exact True.intro | exact rfl | with_reducible_and_instances rfl | exact (by kernel_rfl) | refine And.intro ?_ ?_))
    all_goals conv => whnf
/-! ### canonical limbs -/
def valL : List Int → Nat
  | [] => 0
  | d :: l => d.toNat + 65536 * valL l
def digL (l : List Int) : Prop := ∀ d ∈ l, 0 ≤ d ∧ d < 65536
def canL (n : Nat) : List Int := if h : n = 0 then [] else ((n % 65536 : Nat) : Int) :: canL (n / 65536)
termination_by n
decreasing_by exact Nat.div_lt_self (Nat.pos_of_ne_zero h) (by omega)
theorem canL_zero : canL 0 = [] := by rw [canL]; simp
theorem canL_pos {n : Nat} (h : n ≠ 0) : canL n = ((n % 65536 : Nat) : Int) :: canL (n / 65536) := by rw [canL, dif_neg h]
theorem topN_cons (d : Int) (l : List Int) : ∀ n, topN (d :: l) (n + 1) = if topN l n = 0 then (if d = 0 then 0 else 1) else topN l n + 1
  | 0 => by simp [topN]
  | n + 1 => by
    have ih := topN_cons d l n
    rw [topN]
    have e : ((d :: l)[n + 1]?).getD 0 = (l[n]?).getD 0 := by simp
    rw [e]
    by_cases h : (l[n]?).getD 0 = 0
    · rw [if_pos h, ih]
      have : topN l (n + 1) = topN l n := by rw [topN, if_pos h]
      rw [this]
    · rw [if_neg h]
      have : topN l (n + 1) = n + 1 := by rw [topN, if_neg h]
      rw [this, if_neg (by omega)]
theorem trimL_cons (d : Int) (l : List Int) : trimL (d :: l) = if trimL l = [] then (if d = 0 then [] else [d]) else d :: trimL l := by
  have hz : trimL l = [] ↔ topN l l.length = 0 := by
    unfold trimL
    rw [List.take_eq_nil_iff]
    constructor
    · rintro (h | h)
      · exact h
      · subst h; rfl
    · exact .inl
  by_cases h : topN l l.length = 0
  · rw [if_pos (hz.2 h)]
    unfold trimL
    rw [List.length_cons, topN_cons, if_pos h]
    split <;> simp
  · rw [if_neg (fun q => h (hz.1 q))]
    unfold trimL
    rw [List.length_cons, topN_cons, if_neg h, List.take_succ_cons]
/-- **A row of limbs, trimmed, is what its value says.** -/
theorem trim_can : ∀ {l : List Int}, digL l → trimL l = canL (valL l)
  | [], _ => by rw [valL, canL_zero]; rfl
  | d :: l, h => by
    have ih := trim_can (l := l) fun x hx => h x (List.mem_cons_of_mem _ hx)
    have hd := h d (List.mem_cons_self ..)
    rw [trimL_cons, ih, valL]
    by_cases hv : valL l = 0
    · rw [hv, canL_zero, if_pos rfl]
      by_cases h0 : d = 0
      · rw [if_pos h0, h0]; simp [canL_zero]
      · rw [if_neg h0, canL_pos (by omega), show (d.toNat + 65536 * 0) / 65536 = 0 by omega, canL_zero]
        congr 1
        omega
    · rw [if_neg (by rw [canL_pos hv]; simp), canL_pos (n := d.toNat + 65536 * valL l) (by omega), show (d.toNat + 65536 * valL l) / 65536 = valL l by omega]
      congr 1
      omega
theorem limb4_dig : ∀ (n : Nat) (v : Int), digL (limb4 v n)
  | 0, _ => fun d hd => by simp [limb4] at hd
  | n + 1, v => fun d hd => by
    rw [limb4] at hd
    rcases List.mem_cons.1 hd with e | e
    · subst e; omega
    · exact limb4_dig n _ d e
theorem limb4_val : ∀ (n : Nat) (v : Nat), valL (limb4 v n) = v % 65536 ^ n
  | 0, v => by simp [limb4, valL, Nat.mod_one]
  | n + 1, v => by
    rw [limb4, valL, show ((v : Int) / 65536) = ((v / 65536 : Nat) : Int) by omega, limb4_val n, Nat.pow_succ, Nat.mul_comm (65536 ^ n) 65536, Nat.mod_mul]
    omega
/-- The document's number. -/
abbrev numD (z : Int) : D := nD (decide (z < 0)) (canL z.natAbs)
theorem limb4_can (v : Nat) (h : v < 18446744073709551616) : trimL (limb4 v 4) = canL v := by
  rw [trim_can (limb4_dig _ _), limb4_val, Nat.mod_eq_of_lt (by simpa using h)]
end Go.Proofs.YtbjmdnemeidpjaaGreat
/- Numbers of any length: made, Whole, Of, Neg over whole numbers. -/
namespace Go.Proofs.YtbjmdnemeidpjaaGreat
set_option linter.unusedSimpArgs false
set_option linter.unusedVariables false
open Go.RowKit
set_option maxRecDepth 100000
theorem canL_len (n : Nat) : decide (0 < (canL n).length) = decide (n ≠ 0) := by
  by_cases h : n = 0
  · subst h; rw [canL_zero]; rfl
  · rw [canL_pos h]; simp [h]
theorem canL_val : ∀ (n : Nat), valL (canL n) = n := by
  intro n
  induction n using Nat.strongRecOn with
  | _ n ih =>
    by_cases h : n = 0
    · subst h; rw [canL_zero]; rfl
    · rw [canL_pos h, valL, ih _ (Nat.div_lt_self (Nat.pos_of_ne_zero h) (by omega))]
      omega
theorem canL_dig : ∀ (n : Nat), digL (canL n) := by
  intro n
  induction n using Nat.strongRecOn with
  | _ n ih =>
    by_cases h : n = 0
    · subst h; rw [canL_zero]; intro d hd; simp at hd
    · rw [canL_pos h]
      intro d hd
      rcases List.mem_cons.1 hd with e | e
      · subst e; omega
      · exact ih _ (Nat.div_lt_self (Nat.pos_of_ne_zero h) (by omega)) d e
theorem sign_eq (neg : Bool) (n : Nat) : (neg && decide (0 < (canL n).length)) = decide ((if neg = true then -(n : Int) else n) < 0) := by
  rw [canL_len]
  cases neg with
  | true => rw [Bool.true_and, if_pos rfl]; exact decide_eq_decide.2 (by omega)
  | false => rw [Bool.false_and, if_neg (by simp)]; exact (decide_eq_false (by omega)).symm
theorem canL_short : ∀ (k n : Nat), n < 65536 ^ k → (canL n).length ≤ k
  | 0, n, h => by rw [show n = 0 by simpa using h, canL_zero]; simp
  | k + 1, n, h => by
    by_cases h0 : n = 0
    · subst h0; rw [canL_zero]; simp
    · rw [canL_pos h0, List.length_cons]
      have := canL_short k (n / 65536) (by rw [Nat.pow_succ] at h; omega)
      omega
theorem abs_eq (neg : Bool) (n : Nat) : (if neg = true then -(n : Int) else n).natAbs = n := by cases neg <;> simp
theorem made_num (neg : Bool) (l : List Int) (hd : digL l) (hn : l.length ≤ 4611686018427387904) : Sat Tryz.prog 80 [bA neg, .d (lD l)] [] (.d (numD (if neg = true then -(valL l : Int) else valL l))) [] := by
  have h := made_sat neg l hn
  rw [trim_can hd, sign_eq] at h
  unfold numD
  rw [abs_eq]
  exact h
theorem whole_num (v : Int) (h0 : 0 ≤ v) (h1 : v ≤ 18446744073709551615) : Sat Tryz.prog 85 [.d (.v (.int .u64 v))] [] (.d (numD v)) [] := by
  have h := whole_sat v h0 h1
  obtain ⟨n, rfl⟩ := Int.eq_ofNat_of_zero_le h0
  rw [limb4_can n (by omega)] at h
  unfold numD
  rw [show decide ((n : Int) < 0) = false by simp, Int.natAbs_natCast]
  exact h
theorem of_num (v : Int) (h : -9223372036854775808 ≤ v ∧ v ≤ 9223372036854775807) : Sat Tryz.prog 68 [iA v] [] (.d (numD v)) [] := by
  by_cases h0 : 0 ≤ v
  · have w1 := whole_num v h0 (by omega)
    have e : IntKind.u64.wrap v = v := by rw [IntKind.wrap_u64]; omega
    refine sat_of_vc (T := tiOf Tryz.prog) (E := E0) Tryz.func68 rfl rfl hE0 hm0 rfl ?_
    conv => whnf
    repeat' (first | exact True.intro | ((first | refine And.intro (fun _ => ?_) tf | refine And.intro ft (fun _ => ?_) | refine And.intro (by kernel_rfl) ?_ | refine And.intro (by decide) ?_ | refine And.intro (fun _ => ?_) (fun h => absurd h (by decide)) | refine And.intro (fun h => absurd h (by decide)) (fun _ => ?_) | fail); conv => whnf) | (refine And.intro (fun _ => ?_) (fun _ => ?_) <;> conv => whnf) | fail)
    all_goals try (refine Or.inl ?_; conv => whnf)
    repeat' (first | exact True.intro | ((first | refine And.intro (fun _ => ?_) tf | refine And.intro ft (fun _ => ?_) | refine And.intro (by kernel_rfl) ?_ | refine And.intro (by decide) ?_ | refine And.intro (fun _ => ?_) (fun h => absurd h (by decide)) | refine And.intro (fun h => absurd h (by decide)) (fun _ => ?_) | fail); conv => whnf) | (refine And.intro (fun _ => ?_) (fun _ => ?_) <;> conv => whnf) | fail)
    all_goals try (exfalso; simp only [decide_eq_true_eq, decide_eq_false_iff_not, Bool.not_eq_true', Bool.not_eq_false', Bool.not_eq_true, Bool.not_eq_false, beq_iff_eq, bne_iff_ne, beq_eq_false_iff_ne, bne_eq_false_iff_eq, ne_eq, Decidable.not_not] at *; first | omega | contradiction | (simp_all; done) | (simp_all; omega))
    rw [e]
    repeat' (first | exact True.intro | ((first | refine Or.inl ?_ | refine And.intro (fun _ => ?_) tf | refine And.intro ft (fun _ => ?_) | refine And.intro (by kernel_rfl) ?_ | refine And.intro (by decide) ?_ | refine And.intro (fun _ => ?_) (fun h => absurd h (by decide)) | refine And.intro (fun h => absurd h (by decide)) (fun _ => ?_) | refine ⟨_, _, w1.pu rfl rfl, ?_⟩ | fail); conv => whnf) | (refine And.intro (fun _ => ?_) (fun _ => ?_) <;> conv => whnf) | fail)
    all_goals refine ⟨[], ?_⟩
    repeat (any_goals (first | exact True.intro | exact rfl | with_reducible_and_instances rfl | exact (by kernel_rfl) | refine And.intro ?_ ?_))
    all_goals conv => whnf
  · have w1 := whole_num (-v) (by omega) (by omega)
    have e : IntKind.u64.wrap (IntKind.u64.wrap (IntKind.i64.wrap (0 - IntKind.i64.wrap (v + 1))) + 1) = -v := by
      rw [wi (n := v + 1) (by omega) (by omega), wi (by omega) (by omega), IntKind.wrap_u64, IntKind.wrap_u64]; omega
    have m1 := made_num true (canL (-v).natAbs) (canL_dig _) (by have := canL_short 4 (-v).natAbs (by omega); omega)
    rw [canL_val, if_pos rfl, show -(((-v).natAbs : Nat) : Int) = v by omega] at m1
    refine sat_of_vc (T := tiOf Tryz.prog) (E := E0) Tryz.func68 rfl rfl hE0 hm0 rfl ?_
    conv => whnf
    repeat' (first | exact True.intro | ((first | refine And.intro (fun _ => ?_) tf | refine And.intro ft (fun _ => ?_) | refine And.intro (by kernel_rfl) ?_ | refine And.intro (by decide) ?_ | refine And.intro (fun _ => ?_) (fun h => absurd h (by decide)) | refine And.intro (fun h => absurd h (by decide)) (fun _ => ?_) | fail); conv => whnf) | (refine And.intro (fun _ => ?_) (fun _ => ?_) <;> conv => whnf) | fail)
    all_goals try (refine Or.inl ?_; conv => whnf)
    repeat' (first | exact True.intro | ((first | refine And.intro (fun _ => ?_) tf | refine And.intro ft (fun _ => ?_) | refine And.intro (by kernel_rfl) ?_ | refine And.intro (by decide) ?_ | refine And.intro (fun _ => ?_) (fun h => absurd h (by decide)) | refine And.intro (fun h => absurd h (by decide)) (fun _ => ?_) | fail); conv => whnf) | (refine And.intro (fun _ => ?_) (fun _ => ?_) <;> conv => whnf) | fail)
    all_goals try (exfalso; simp only [decide_eq_true_eq, decide_eq_false_iff_not, Bool.not_eq_true', Bool.not_eq_false', Bool.not_eq_true, Bool.not_eq_false, beq_iff_eq, bne_iff_ne, beq_eq_false_iff_ne, bne_eq_false_iff_eq, ne_eq, Decidable.not_not] at *; first | omega | contradiction | (simp_all; done) | (simp_all; omega))
    rw [e]
    repeat' (first | exact True.intro | ((first | refine Or.inl ?_ | refine And.intro (fun _ => ?_) tf | refine And.intro ft (fun _ => ?_) | refine And.intro (by kernel_rfl) ?_ | refine And.intro (by decide) ?_ | refine And.intro (fun _ => ?_) (fun h => absurd h (by decide)) | refine And.intro (fun h => absurd h (by decide)) (fun _ => ?_) | refine ⟨_, _, w1.pu rfl rfl, ?_⟩ | refine ⟨_, _, m1.pu rfl rfl, ?_⟩ | fail); conv => whnf) | (refine And.intro (fun _ => ?_) (fun _ => ?_) <;> conv => whnf) | fail)
    all_goals refine ⟨[], ?_⟩
    repeat (any_goals (first | exact True.intro | exact rfl | with_reducible_and_instances rfl | exact (by kernel_rfl) | refine And.intro ?_ ?_))
    all_goals conv => whnf
theorem neg_num (z : Int) (hz : (canL z.natAbs).length ≤ 4611686018427387904) : Sat Tryz.prog 88 [.d (numD z)] [] (.d (numD (-z))) [] := by
  have m1 := made_num (!(decide (z < 0))) (canL z.natAbs) (canL_dig _) hz
  rw [canL_val, show (if (!decide (z < 0)) = true then -(z.natAbs : Int) else (z.natAbs : Int)) = -z by by_cases h : z < 0 <;> simp [h] <;> omega] at m1
  refine sat_of_vc (T := tiOf Tryz.prog) (E := E0) Tryz.func88 rfl rfl hE0 hm0 rfl ?_
  conv => whnf
  repeat' (first | exact True.intro | ((first | refine Or.inl ?_ | refine And.intro (fun _ => ?_) tf | refine And.intro ft (fun _ => ?_) | refine And.intro (by kernel_rfl) ?_ | refine And.intro (by decide) ?_ | refine And.intro (fun _ => ?_) (fun h => absurd h (by decide)) | refine And.intro (fun h => absurd h (by decide)) (fun _ => ?_) | refine ⟨_, _, m1.pu rfl rfl, ?_⟩ | fail); conv => whnf) | (refine And.intro (fun _ => ?_) (fun _ => ?_) <;> conv => whnf) | fail)
  all_goals refine ⟨[], ?_⟩
  repeat (any_goals (first | exact True.intro | exact rfl | with_reducible_and_instances rfl | exact (by kernel_rfl) | refine And.intro ?_ ?_))
  all_goals conv => whnf
end Go.Proofs.YtbjmdnemeidpjaaGreat
/- Numbers of any length: above. -/
namespace Go.Proofs.YtbjmdnemeidpjaaGreat
set_option linter.unusedSimpArgs false
set_option linter.unusedVariables false
open Go.RowKit
set_option maxRecDepth 100000
def lb (l : List Int) (i : Nat) : Int := (l[i]?).getD 0
theorem lb_dig {l : List Int} (h : digL l) (i : Nat) : 0 ≤ lb l i ∧ lb l i < 65536 := by
  unfold lb
  cases hx : l[i]? with
  | none => simp
  | some x => exact h x (List.mem_of_getElem? hx)
theorem valL_drop : ∀ (l : List Int) (i : Nat), valL (l.drop i) = (lb l i).toNat + 65536 * valL (l.drop (i + 1))
  | [], i => by simp [valL, lb]
  | d :: l, 0 => by simp [valL, lb]
  | d :: l, i + 1 => by
    have := valL_drop l i
    simpa [lb] using this
theorem valL_take : ∀ (l : List Int) (i : Nat), digL l → valL l = valL (l.take i) + 65536 ^ i * valL (l.drop i) ∧ valL (l.take i) < 65536 ^ i
  | l, 0, _ => by simp [valL]
  | [], i + 1, _ => by simp [valL]; exact Nat.pos_of_ne_zero (by simp)
  | d :: l, i + 1, h => by
    have hd := h d (List.mem_cons_self ..)
    obtain ⟨h1, h2⟩ := valL_take l i fun x hx => h x (List.mem_cons_of_mem _ hx)
    rw [List.take_succ_cons, List.drop_succ_cons, valL, valL]
    have e : 65536 ^ (i + 1) * valL (l.drop i) = 65536 * (65536 ^ i * valL (l.drop i)) := by rw [Nat.pow_succ, Nat.mul_comm (65536 ^ i) 65536, Nat.mul_assoc]
    have e2 : 65536 ^ (i + 1) = 65536 * 65536 ^ i := by rw [Nat.pow_succ, Nat.mul_comm]
    omega
/-- From i on the limbs are the same. -/
def sameFrom (a b : List Int) (i : Nat) : Prop := ∀ j, i ≤ j → lb a j = lb b j
theorem same_val {a b : List Int} : ∀ (n i : Nat), a.length ≤ i + n → b.length ≤ i + n → sameFrom a b i → valL (a.drop i) = valL (b.drop i)
  | 0, i, ha, hb, _ => by rw [List.drop_eq_nil_of_le (by omega), List.drop_eq_nil_of_le (by omega)]
  | n + 1, i, ha, hb, h => by
    rw [valL_drop a i, valL_drop b i, h i (Nat.le_refl _), same_val n (i + 1) (by omega) (by omega) fun j hj => h j (by omega)]
theorem above_gt {a b : List Int} {i : Nat} (da : digL a) (db : digL b) (h : sameFrom a b (i + 1)) (hg : lb b i < lb a i) : valL b < valL a := by
  obtain ⟨a1, a2⟩ := valL_take a i da
  obtain ⟨b1, b2⟩ := valL_take b i db
  have e := same_val (a := a) (b := b) (a.length + b.length) (i + 1) (by omega) (by omega) h
  rw [valL_drop a i] at a1
  rw [valL_drop b i] at b1
  rw [e] at a1
  have hx := lb_dig da i
  have hy := lb_dig db i
  generalize valL (b.drop (i + 1)) = V at *
  have hm : 65536 ^ i * ((lb b i).toNat + 65536 * V + 1) ≤ 65536 ^ i * ((lb a i).toNat + 65536 * V) := Nat.mul_le_mul_left _ (by omega)
  rw [Nat.mul_add, Nat.mul_one] at hm
  omega
def cmpN (m n : Nat) : Int := if n < m then 1 else if m < n then -1 else 0
theorem above_sat (a b : List Int) (da : digL a) (db : digL b) (ha : a.length ≤ 1000000000) (hb : b.length ≤ 1000000000) : Sat Tryz.prog 82 [.d (lD a), .d (lD b)] [] (iA (cmpN (valL a) (valL b))) [] := by
  refine sat_of_vc (T := tiOf Tryz.prog) (E := E0) Tryz.func82 rfl rfl hE0 hm0 rfl ?_
  conv => whnf
  repeat' (first | exact True.intro | ((first | refine And.intro (fun _ => ?_) tf | refine And.intro ft (fun _ => ?_) | refine And.intro (by kernel_rfl) ?_ | refine And.intro (by decide) ?_ | refine And.intro (fun _ => ?_) (fun h => absurd h (by decide)) | refine And.intro (fun h => absurd h (by decide)) (fun _ => ?_) | fail); conv => whnf) | (refine And.intro (fun _ => ?_) (fun _ => ?_) <;> conv => whnf) | fail)
  all_goals try (refine Or.inl ?_; conv => whnf)
  repeat' (first | exact True.intro | ((first | refine And.intro (fun _ => ?_) tf | refine And.intro ft (fun _ => ?_) | refine And.intro (by kernel_rfl) ?_ | refine And.intro (by decide) ?_ | refine And.intro (fun _ => ?_) (fun h => absurd h (by decide)) | refine And.intro (fun h => absurd h (by decide)) (fun _ => ?_) | fail); conv => whnf) | (refine And.intro (fun _ => ?_) (fun _ => ?_) <;> conv => whnf) | fail)
  refine ⟨Nat, fun n => n ≤ 1000000000 ∧ sameFrom a b n, fun n => ([(5, iA ((n : Int) - 1)), (0, .d (lD a)), (1, .d (lD b))], []), fun n => n, ⟨max a.length b.length, ⟨by omega, fun j hj => ?_⟩, ?_⟩, ?_⟩
  · unfold lb
    rw [List.getElem?_eq_none (by omega), List.getElem?_eq_none (by omega)]
  · all_goals refine ⟨[], ?_⟩
    repeat (any_goals (first | exact True.intro | exact rfl | with_reducible_and_instances rfl | exact (by kernel_rfl) | refine And.intro ?_ ?_))
    all_goals conv => whnf
    rw [List.length_map, List.length_map]
    have e : (if (b.length : Int) > a.length then (b.length : Int) else a.length) = ((max a.length b.length : Nat) : Int) := by split <;> omega
    rw [e, wi (by omega) (by omega)]
  rintro n ⟨hn, hs⟩
  conv => whnf
  cases n with
  | zero =>
    have e := same_val (a := a) (b := b) (a.length + b.length) 0 (by omega) (by omega) hs
    rw [List.drop_zero, List.drop_zero] at e
    have hr : cmpN (valL a) (valL b) = 0 := by unfold cmpN; rw [e]; simp
    rw [hr]
    repeat' (first | exact True.intro | ((first | refine Or.inl ?_ | refine And.intro (fun _ => ?_) tf | refine And.intro ft (fun _ => ?_) | refine And.intro (by kernel_rfl) ?_ | refine And.intro (by decide) ?_ | refine And.intro (fun _ => ?_) (fun h => absurd h (by decide)) | refine And.intro (fun h => absurd h (by decide)) (fun _ => ?_) | fail); conv => whnf) | (refine And.intro (fun _ => ?_) (fun _ => ?_) <;> conv => whnf) | fail)
    all_goals try (exfalso; simp only [decide_eq_true_eq, decide_eq_false_iff_not, Bool.not_eq_true', Bool.not_eq_false', Bool.not_eq_true, Bool.not_eq_false, beq_iff_eq, bne_iff_ne, beq_eq_false_iff_ne, bne_eq_false_iff_eq, ne_eq, Decidable.not_not] at *; first | omega | contradiction | (simp_all; done) | (simp_all; omega))
    all_goals refine ⟨[], ?_⟩
    repeat (any_goals (first | exact True.intro | exact rfl | with_reducible_and_instances rfl | exact (by kernel_rfl) | refine And.intro ?_ ?_))
    all_goals conv => whnf
  | succ m =>
    have em : ((m + 1 : Nat) : Int) - 1 = (m : Int) := by omega
    have la : Sat Tryz.prog 101 [.d (lD a), iA (((m + 1 : Nat) : Int) - 1)] [] (iA (lb a m)) [] := by rw [em]; exact limb_sat a m
    have lb' : Sat Tryz.prog 101 [.d (lD b), iA (((m + 1 : Nat) : Int) - 1)] [] (iA (lb b m)) [] := by rw [em]; exact limb_sat b m
    repeat' (first | exact True.intro | ((first | refine Or.inl ?_ | refine And.intro (fun _ => ?_) tf | refine And.intro ft (fun _ => ?_) | refine And.intro (by kernel_rfl) ?_ | refine And.intro (by decide) ?_ | refine And.intro (fun _ => ?_) (fun h => absurd h (by decide)) | refine And.intro (fun h => absurd h (by decide)) (fun _ => ?_) | refine ⟨_, _, la.pu rfl rfl, ?_⟩ | refine ⟨_, _, lb'.pu rfl rfl, ?_⟩ | fail); conv => whnf) | (refine And.intro (fun _ => ?_) (fun _ => ?_) <;> conv => whnf) | fail)
    all_goals try (exfalso; simp only [decide_eq_true_eq, decide_eq_false_iff_not, Bool.not_eq_true', Bool.not_eq_false', Bool.not_eq_true, Bool.not_eq_false, beq_iff_eq, bne_iff_ne, beq_eq_false_iff_ne, bne_eq_false_iff_eq, ne_eq, Decidable.not_not] at *; first | omega | contradiction | (simp_all; done) | (simp_all; omega))
    · have h := above_gt da db hs (by (try simp only [decide_eq_true_eq, decide_eq_false_iff_not, Bool.not_eq_true', Bool.not_eq_false', Bool.not_eq_true, Bool.not_eq_false, beq_iff_eq, bne_iff_ne, beq_eq_false_iff_ne, bne_eq_false_iff_eq, ne_eq, Decidable.not_not, Int.natCast_eq_zero] at *); first | omega | assumption | (simp_all; done) | (simp_all; omega))
      have hr : cmpN (valL a) (valL b) = 1 := by unfold cmpN; rw [if_pos h]
      rw [hr]
      all_goals refine ⟨[], ?_⟩
      repeat (any_goals (first | exact True.intro | exact rfl | with_reducible_and_instances rfl | exact (by kernel_rfl) | refine And.intro ?_ ?_))
      all_goals conv => whnf
    · have h := above_gt db da (fun j hj => (hs j hj).symm) (by (try simp only [decide_eq_true_eq, decide_eq_false_iff_not, Bool.not_eq_true', Bool.not_eq_false', Bool.not_eq_true, Bool.not_eq_false, beq_iff_eq, bne_iff_ne, beq_eq_false_iff_ne, bne_eq_false_iff_eq, ne_eq, Decidable.not_not, Int.natCast_eq_zero] at *); first | omega | assumption | (simp_all; done) | (simp_all; omega))
      have hr : cmpN (valL a) (valL b) = -1 := by unfold cmpN; rw [if_neg (by omega), if_pos h]
      rw [hr]
      all_goals refine ⟨[], ?_⟩
      repeat (any_goals (first | exact True.intro | exact rfl | with_reducible_and_instances rfl | exact (by kernel_rfl) | refine And.intro ?_ ?_))
      all_goals conv => whnf
    · have he : lb a m = lb b m := (by (try simp only [decide_eq_true_eq, decide_eq_false_iff_not, Bool.not_eq_true', Bool.not_eq_false', Bool.not_eq_true, Bool.not_eq_false, beq_iff_eq, bne_iff_ne, beq_eq_false_iff_ne, bne_eq_false_iff_eq, ne_eq, Decidable.not_not, Int.natCast_eq_zero] at *); first | omega | assumption | (simp_all; done) | (simp_all; omega))
      refine ⟨m, ⟨by omega, fun j hj => ?_⟩, Nat.lt_succ_self m, ?_⟩
      · rcases Nat.lt_or_ge j (m + 1) with q | q
        · rw [show j = m by omega]; exact he
        · exact hs j q
      · all_goals refine ⟨[], ?_⟩
        repeat (any_goals (first | exact True.intro | exact rfl | with_reducible_and_instances rfl | exact (by kernel_rfl) | refine And.intro ?_ ?_))
        all_goals conv => whnf
        rw [em, wi (by omega) (by omega)]
end Go.Proofs.YtbjmdnemeidpjaaGreat
/- Numbers of any length: plus. -/
namespace Go.Proofs.YtbjmdnemeidpjaaGreat
set_option linter.unusedSimpArgs false
set_option linter.unusedVariables false
open Go.RowKit
set_option maxRecDepth 100000
theorem valL_snoc : ∀ (l : List Int) (d : Int), valL (l ++ [d]) = valL l + 65536 ^ l.length * d.toNat
  | [], d => by simp [valL]
  | x :: l, d => by
    rw [List.cons_append, valL, valL_snoc l d, valL, List.length_cons, Nat.pow_succ, Nat.mul_comm (65536 ^ l.length) 65536, Nat.mul_assoc, Nat.mul_add]
    omega
theorem digL_snoc {l : List Int} {d : Int} (h : digL l) (h0 : 0 ≤ d) (h1 : d < 65536) : digL (l ++ [d]) := fun x hx => by
  rcases List.mem_append.1 hx with q | q
  · exact h x q
  · simp at q; subst q; exact ⟨h0, h1⟩
/-- How far a sum has come. -/
structure PlusI (a b : List Int) (k : Nat) (c : Int) (out : List Int) : Prop where
  len : out.length = k
  dig : digL out
  c0 : 0 ≤ c
  c1 : c ≤ 1
  eq : valL out + 65536 ^ k * (c.toNat + valL (a.drop k) + valL (b.drop k)) = valL a + valL b
theorem PlusI.next {a b : List Int} {k : Nat} {c : Int} {out : List Int} (I : PlusI a b k c out) (da : digL a) (db : digL b) : PlusI a b (k + 1) ((c + (lb a k + lb b k)) / 65536) (out ++ [(c + (lb a k + lb b k)) % 65536]) := by
  obtain ⟨h1, h2, h3, h4, h5⟩ := I
  have ha := lb_dig da k
  have hb := lb_dig db k
  refine ⟨by simp [h1], digL_snoc h2 (by omega) (by omega), by omega, by omega, ?_⟩
  rw [valL_snoc, h1, ← h5, valL_drop a k, valL_drop b k, Nat.pow_succ, Nat.mul_assoc, Nat.add_assoc, ← Nat.mul_add]
  congr 2
  omega
theorem PlusI.fin {a b : List Int} {k : Nat} {c : Int} {out : List Int} (I : PlusI a b k c out) (da : digL a) (db : digL b) (hk : k = max a.length b.length + 1) : valL out = valL a + valL b := by
  obtain ⟨h1, h2, h3, h4, h5⟩ := I
  rw [List.drop_eq_nil_of_le (by omega), List.drop_eq_nil_of_le (by omega)] at h5
  simp only [valL, Nat.add_zero] at h5
  have hva := (valL_take a (max a.length b.length) da).2
  have hvb := (valL_take b (max a.length b.length) db).2
  rw [List.take_of_length_le (by omega)] at hva hvb
  rw [hk, Nat.pow_succ] at h5
  rcases Nat.eq_zero_or_pos c.toNat with h0 | h0
  · rw [h0] at h5; omega
  · have : c.toNat = 1 := by omega
    rw [this] at h5
    omega
theorem plus_num (a b : List Int) (da : digL a) (db : digL b) (ha : a.length ≤ 1000000000) (hb : b.length ≤ 1000000000) : Sat Tryz.prog 81 [.d (lD a), .d (lD b)] [] (.d (lD (canL (valL a + valL b)))) [] := by
  refine sat_of_vc (T := tiOf Tryz.prog) (E := E0) Tryz.func81 rfl rfl hE0 hm0 rfl ?_
  conv => whnf
  repeat' (first | exact True.intro | ((first | refine And.intro (fun _ => ?_) tf | refine And.intro ft (fun _ => ?_) | refine And.intro (by kernel_rfl) ?_ | refine And.intro (by decide) ?_ | refine And.intro (fun _ => ?_) (fun h => absurd h (by decide)) | refine And.intro (fun h => absurd h (by decide)) (fun _ => ?_) | fail); conv => whnf) | (refine And.intro (fun _ => ?_) (fun _ => ?_) <;> conv => whnf) | fail)
  all_goals try (refine Or.inl ?_; conv => whnf)
  repeat' (first | exact True.intro | ((first | refine And.intro (fun _ => ?_) tf | refine And.intro ft (fun _ => ?_) | refine And.intro (by kernel_rfl) ?_ | refine And.intro (by decide) ?_ | refine And.intro (fun _ => ?_) (fun h => absurd h (by decide)) | refine And.intro (fun h => absurd h (by decide)) (fun _ => ?_) | fail); conv => whnf) | (refine And.intro (fun _ => ?_) (fun _ => ?_) <;> conv => whnf) | fail)
  have e : (if ((b.map lR).length : Int) > (a.map lR).length then ((b.map lR).length : Int) else (a.map lR).length) = ((max a.length b.length : Nat) : Int) := by rw [List.length_map, List.length_map]; split <;> omega
  refine ⟨Nat × Int × List Int, fun y => y.1 ≤ max a.length b.length + 1 ∧ PlusI a b y.1 y.2.1 y.2.2, fun y => ([(7, iA y.1), (6, iA y.2.1), (5, .own 0), (0, .d (lD a)), (1, .d (lD b))], [.sl 1 (y.2.2.map lR)]), fun y => max a.length b.length + 1 - y.1, ⟨(0, 0, []), ⟨Nat.zero_le _, rfl, fun d hd => by simp at hd, Int.le_refl _, show (0 : Int) ≤ 1 by decide, by simp [valL]⟩, ?_⟩, ?_⟩
  · all_goals refine ⟨[], ?_⟩
    repeat (any_goals (first | exact True.intro | exact rfl | with_reducible_and_instances rfl | exact (by kernel_rfl) | refine And.intro ?_ ?_))
    all_goals conv => whnf
  rintro ⟨k, c, out⟩ ⟨hk, I⟩
  have hk : k ≤ max a.length b.length + 1 := hk
  have I : PlusI a b k c out := I
  conv => whnf
  by_cases hlt : k = max a.length b.length + 1
  · have hv := I.fin da db hlt
    have ho := I.len
    have tr := trim_sat out (by omega)
    rw [trim_can I.dig, hv] at tr
    repeat' (first | exact True.intro | ((first | refine Or.inl ?_ | refine And.intro (fun _ => ?_) tf | refine And.intro ft (fun _ => ?_) | refine And.intro (by kernel_rfl) ?_ | refine And.intro (by decide) ?_ | refine And.intro (fun _ => ?_) (fun h => absurd h (by decide)) | refine And.intro (fun h => absurd h (by decide)) (fun _ => ?_) | refine ⟨_, _, frz_a tr rfl rfl, ?_⟩ | fail); conv => whnf) | (refine And.intro (fun _ => ?_) (fun _ => ?_) <;> conv => whnf) | fail)
    all_goals try (exfalso; simp only [decide_eq_true_eq, decide_eq_false_iff_not, Bool.not_eq_true', Bool.not_eq_false', Bool.not_eq_true, Bool.not_eq_false, beq_iff_eq, bne_iff_ne, beq_eq_false_iff_ne, bne_eq_false_iff_eq, ne_eq, Decidable.not_not] at *; first | omega | contradiction | (simp_all; done) | (simp_all; omega))
    all_goals refine ⟨[], ?_⟩
    repeat (any_goals (first | exact True.intro | exact rfl | with_reducible_and_instances rfl | exact (by kernel_rfl) | refine And.intro ?_ ?_))
    all_goals conv => whnf
  · have la := limb_sat a k
    have lb' := limb_sat b k
    have ho := I.len
    repeat' (first | exact True.intro | ((first | refine Or.inl ?_ | refine And.intro (fun _ => ?_) tf | refine And.intro ft (fun _ => ?_) | refine And.intro (by kernel_rfl) ?_ | refine And.intro (by decide) ?_ | refine And.intro (fun _ => ?_) (fun h => absurd h (by decide)) | refine And.intro (fun h => absurd h (by decide)) (fun _ => ?_) | refine ⟨_, _, la.pu rfl rfl, ?_⟩ | refine ⟨_, _, lb'.pu rfl rfl, ?_⟩ | refine ⟨_, _, ap 1 8 (by kernel_rfl) rfl rfl (by simp; omega), ?_⟩ | fail); conv => whnf) | (refine And.intro (fun _ => ?_) (fun _ => ?_) <;> conv => whnf) | fail)
    all_goals try (exfalso; simp only [decide_eq_true_eq, decide_eq_false_iff_not, Bool.not_eq_true', Bool.not_eq_false', Bool.not_eq_true, Bool.not_eq_false, beq_iff_eq, bne_iff_ne, beq_eq_false_iff_ne, bne_eq_false_iff_eq, ne_eq, Decidable.not_not] at *; first | omega | contradiction | (simp_all; done) | (simp_all; omega))
    have ga := lb_dig da k
    have gb := lb_dig db k
    have c0 := I.c0
    have c1 := I.c1
    refine ⟨(k + 1, (c + (lb a k + lb b k)) / 65536, out ++ [(c + (lb a k + lb b k)) % 65536]), ⟨show k + 1 ≤ _ by omega, I.next da db⟩, show max a.length b.length + 1 - (k + 1) < max a.length b.length + 1 - k by omega, ?_⟩
    have u1 : IntKind.i64.wrap (lb a k + lb b k) = lb a k + lb b k := wi (by omega) (by omega)
    have u2 : IntKind.i64.wrap (c + (lb a k + lb b k)) = c + (lb a k + lb b k) := wi (by omega) (by omega)
    all_goals refine ⟨[(0, 2)], ?_⟩
    repeat (any_goals (first | exact True.intro | exact rfl | with_reducible_and_instances rfl | exact (by kernel_rfl) | refine And.intro ?_ ?_))
    all_goals conv => whnf
    · exact wk1 (show k ≤ _ by omega)
    · show AV.d (.v (.int .i64 (IntKind.i64.wrap ((IntKind.i64.wrap (c + IntKind.i64.wrap (lb a k + lb b k))).tdiv 65536)))) = iA ((c + (lb a k + lb b k)) / 65536)
      rw [u1, u2, Int.tdiv_eq_ediv_of_nonneg (by omega), wi (by omega) (by omega)]
    · show AObj.sl 1 (out.map lR ++ [[.v (.int .i64 ((IntKind.i64.wrap (c + IntKind.i64.wrap (lb a k + lb b k))).tmod 65536))]]) = .sl 1 ((out ++ [(c + (lb a k + lb b k)) % 65536]).map lR)
      rw [u1, u2, Int.tmod_eq_emod_of_nonneg (by omega), List.map_append]; rfl
end Go.Proofs.YtbjmdnemeidpjaaGreat
/- Numbers of any length: minus. -/
namespace Go.Proofs.YtbjmdnemeidpjaaGreat
set_option linter.unusedSimpArgs false
set_option linter.unusedVariables false
open Go.RowKit
set_option maxRecDepth 100000
/-- How far a difference has come: c is borrowed. -/
structure MinI (a b : List Int) (k : Nat) (c : Int) (out : List Int) : Prop where
  len : out.length = k
  dig : digL out
  c0 : 0 ≤ c
  c1 : c ≤ 1
  eq : (valL out : Int) + 65536 ^ k * ((valL (a.drop k) : Int) - valL (b.drop k) - c) = (valL a : Int) - valL b
theorem MinI.next {a b : List Int} {k : Nat} {c : Int} {out : List Int} (I : MinI a b k c out) (da : digL a) (db : digL b) : MinI a b (k + 1) (if lb a k - lb b k - c < 0 then 1 else 0) (out ++ [if lb a k - lb b k - c < 0 then lb a k - lb b k - c + 65536 else lb a k - lb b k - c]) := by
  obtain ⟨h1, h2, h3, h4, h5⟩ := I
  have ha := lb_dig da k
  have hb := lb_dig db k
  have e : ∀ (x q : Int), x = lb a k - lb b k - c + 65536 * q → 0 ≤ x → (valL (out ++ [x]) : Int) + 65536 ^ (k + 1) * ((valL (a.drop (k + 1)) : Int) - valL (b.drop (k + 1)) - q) = (valL a : Int) - valL b := by
    intro x q hx hx0
    rw [valL_snoc, h1, ← h5, valL_drop a k, valL_drop b k, Int.pow_succ]
    simp only [Int.natCast_add, Int.natCast_mul, Int.natCast_pow, Int.toNat_of_nonneg hx0, Int.toNat_of_nonneg ha.1, Int.toNat_of_nonneg hb.1, show ((65536 : Nat) : Int) = 65536 from rfl]
    rw [Int.mul_assoc, Int.add_assoc, ← Int.mul_add]
    congr 2
    rw [hx]
    omega
  by_cases hn : lb a k - lb b k - c < 0
  · rw [if_pos hn, if_pos hn]
    exact ⟨by simp [h1], digL_snoc h2 (by omega) (by omega), by omega, by omega, e _ 1 (by omega) (by omega)⟩
  · rw [if_neg hn, if_neg hn]
    exact ⟨by simp [h1], digL_snoc h2 (by omega) (by omega), by omega, by omega, e _ 0 (by omega) (by omega)⟩
theorem MinI.fin {a b : List Int} {c : Int} {out : List Int} (I : MinI a b a.length c out) (da : digL a) (db : digL b) (h : valL b ≤ valL a) : valL out = valL a - valL b := by
  obtain ⟨h1, h2, h3, h4, h5⟩ := I
  have hb := (valL_take b a.length db).1
  have ha := (valL_take a a.length da).2
  rw [List.take_length] at ha
  have ho := (valL_take out out.length h2).2
  rw [List.take_length, h1] at ho
  rw [List.drop_eq_nil_of_le (Nat.le_refl _)] at h5
  generalize valL (b.drop a.length) = B at *
  have hB : B = 0 := by
    rcases Nat.eq_zero_or_pos B with q | q
    · exact q
    · have : 65536 ^ a.length * 1 ≤ 65536 ^ a.length * B := Nat.mul_le_mul_left _ q
      omega
  subst hB
  simp only [valL, Int.natCast_zero, Int.sub_zero, Int.zero_sub] at h5
  have hp : ((65536 : Int) ^ a.length) = ((65536 ^ a.length : Nat) : Int) := by simp
  rw [hp] at h5
  rcases (show c = 0 ∨ c = 1 by omega) with q | q
  · subst q; simp at h5; omega
  · subst q; simp at h5; omega
theorem minus_num (a b : List Int) (da : digL a) (db : digL b) (ha : a.length ≤ 1000000000) (h : valL b ≤ valL a) : Sat Tryz.prog 83 [.d (lD a), .d (lD b)] [] (.d (lD (canL (valL a - valL b)))) [] := by
  refine sat_of_vc (T := tiOf Tryz.prog) (E := E0) Tryz.func83 rfl rfl hE0 hm0 rfl ?_
  conv => whnf
  repeat' (first | exact True.intro | ((first | refine And.intro (fun _ => ?_) tf | refine And.intro ft (fun _ => ?_) | refine And.intro (by kernel_rfl) ?_ | refine And.intro (by decide) ?_ | refine And.intro (fun _ => ?_) (fun h => absurd h (by decide)) | refine And.intro (fun h => absurd h (by decide)) (fun _ => ?_) | fail); conv => whnf) | (refine And.intro (fun _ => ?_) (fun _ => ?_) <;> conv => whnf) | fail)
  all_goals try (refine Or.inl ?_; conv => whnf)
  repeat' (first | exact True.intro | ((first | refine And.intro (fun _ => ?_) tf | refine And.intro ft (fun _ => ?_) | refine And.intro (by kernel_rfl) ?_ | refine And.intro (by decide) ?_ | refine And.intro (fun _ => ?_) (fun h => absurd h (by decide)) | refine And.intro (fun h => absurd h (by decide)) (fun _ => ?_) | fail); conv => whnf) | (refine And.intro (fun _ => ?_) (fun _ => ?_) <;> conv => whnf) | fail)
  refine ⟨Nat × Int × List Int, fun y => y.1 ≤ a.length ∧ MinI a b y.1 y.2.1 y.2.2, fun y => ([(7, iA y.1), (6, iA y.2.1), (5, .own 0), (0, .d (lD a)), (1, .d (lD b))], [.sl 1 (y.2.2.map lR)]), fun y => a.length - y.1, ⟨(0, 0, []), ⟨Nat.zero_le _, rfl, fun d hd => by simp at hd, Int.le_refl _, show (0 : Int) ≤ 1 by decide, by simp [valL]⟩, ?_⟩, ?_⟩
  · all_goals refine ⟨[], ?_⟩
    repeat (any_goals (first | exact True.intro | exact rfl | with_reducible_and_instances rfl | exact (by kernel_rfl) | refine And.intro ?_ ?_))
    all_goals conv => whnf
  rintro ⟨k, c, out⟩ ⟨hk, I⟩
  have hk : k ≤ a.length := hk
  have I : MinI a b k c out := I
  conv => whnf
  by_cases hlt : k = a.length
  · subst hlt
    have hv := I.fin da db h
    have ho := I.len
    have tr := trim_sat out (by omega)
    rw [trim_can I.dig, hv] at tr
    repeat' (first | exact True.intro | ((first | refine Or.inl ?_ | refine And.intro (fun _ => ?_) tf | refine And.intro ft (fun _ => ?_) | refine And.intro (by kernel_rfl) ?_ | refine And.intro (by decide) ?_ | refine And.intro (fun _ => ?_) (fun h => absurd h (by decide)) | refine And.intro (fun h => absurd h (by decide)) (fun _ => ?_) | refine ⟨_, _, frz_a tr rfl rfl, ?_⟩ | fail); conv => whnf) | (refine And.intro (fun _ => ?_) (fun _ => ?_) <;> conv => whnf) | fail)
    all_goals try (exfalso; simp only [decide_eq_true_eq, decide_eq_false_iff_not, Bool.not_eq_true', Bool.not_eq_false', Bool.not_eq_true, Bool.not_eq_false, beq_iff_eq, bne_iff_ne, beq_eq_false_iff_ne, bne_eq_false_iff_eq, ne_eq, Decidable.not_not] at *; first | omega | contradiction | (simp_all; done) | (simp_all; omega))
    all_goals refine ⟨[], ?_⟩
    repeat (any_goals (first | exact True.intro | exact rfl | with_reducible_and_instances rfl | exact (by kernel_rfl) | refine And.intro ?_ ?_))
    all_goals conv => whnf
  · have la := limb_sat a k
    have lb' := limb_sat b k
    have ho := I.len
    have nx := I.next da db
    have ga := lb_dig da k
    have gb := lb_dig db k
    have c0 := I.c0
    have c1 := I.c1
    have u1 : IntKind.i64.wrap (lb a k - lb b k) = lb a k - lb b k := wi (by omega) (by omega)
    have u2 : IntKind.i64.wrap (lb a k - lb b k - c) = lb a k - lb b k - c := wi (by omega) (by omega)
    have u3 : IntKind.i64.wrap (lb a k - lb b k - c + 65536) = lb a k - lb b k - c + 65536 := wi (by omega) (by omega)
    repeat' (first | exact True.intro | ((first | refine Or.inl ?_ | refine And.intro (fun _ => ?_) tf | refine And.intro ft (fun _ => ?_) | refine And.intro (by kernel_rfl) ?_ | refine And.intro (by decide) ?_ | refine And.intro (fun _ => ?_) (fun h => absurd h (by decide)) | refine And.intro (fun h => absurd h (by decide)) (fun _ => ?_) | refine ⟨_, _, la.pu rfl rfl, ?_⟩ | refine ⟨_, _, lb'.pu rfl rfl, ?_⟩ | refine ⟨_, _, ap 1 8 (by kernel_rfl) rfl rfl (by simp; omega), ?_⟩ | fail); conv => whnf) | (refine And.intro (fun _ => ?_) (fun _ => ?_) <;> conv => whnf) | fail)
    · rename_i hc
      have hc : lb a k - lb b k - c < 0 := by
        have hc : decide (IntKind.i64.wrap (IntKind.i64.wrap (lb a k - lb b k) - c) < 0) = true := hc
        rw [u1, u2] at hc; simpa using hc
      rw [if_pos hc, if_pos hc] at nx
      refine ⟨(k + 1, 1, out ++ [lb a k - lb b k - c + 65536]), ⟨show k + 1 ≤ _ by omega, nx⟩, show a.length - (k + 1) < a.length - k by omega, ?_⟩
      all_goals refine ⟨[(0, 2)], ?_⟩
      repeat (any_goals (first | exact True.intro | exact rfl | with_reducible_and_instances rfl | exact (by kernel_rfl) | refine And.intro ?_ ?_))
      all_goals conv => whnf
      · exact wk1 (show k ≤ _ by omega)
      · show AObj.sl 1 (out.map lR ++ [[.v (.int .i64 (IntKind.i64.wrap (IntKind.i64.wrap (IntKind.i64.wrap (lb a k - lb b k) - c) + 65536)))]]) = .sl 1 ((out ++ [lb a k - lb b k - c + 65536]).map lR)
        rw [u1, u2, u3, List.map_append]; rfl
    · rename_i hc
      have hc : ¬ lb a k - lb b k - c < 0 := by
        have hc : decide (IntKind.i64.wrap (IntKind.i64.wrap (lb a k - lb b k) - c) < 0) = false := hc
        rw [u1, u2] at hc; simpa using hc
      rw [if_neg hc, if_neg hc] at nx
      refine ⟨(k + 1, 0, out ++ [lb a k - lb b k - c]), ⟨show k + 1 ≤ _ by omega, nx⟩, show a.length - (k + 1) < a.length - k by omega, ?_⟩
      all_goals refine ⟨[(0, 2)], ?_⟩
      repeat (any_goals (first | exact True.intro | exact rfl | with_reducible_and_instances rfl | exact (by kernel_rfl) | refine And.intro ?_ ?_))
      all_goals conv => whnf
      · exact wk1 (show k ≤ _ by omega)
      · show AObj.sl 1 (out.map lR ++ [[.v (.int .i64 (IntKind.i64.wrap (IntKind.i64.wrap (lb a k - lb b k) - c)))]]) = .sl 1 ((out ++ [lb a k - lb b k - c]).map lR)
        rw [u1, u2, List.map_append]; rfl
    all_goals try (exfalso; simp only [decide_eq_true_eq, decide_eq_false_iff_not, Bool.not_eq_true', Bool.not_eq_false', Bool.not_eq_true, Bool.not_eq_false, beq_iff_eq, bne_iff_ne, beq_eq_false_iff_ne, bne_eq_false_iff_eq, ne_eq, Decidable.not_not] at *; first | omega | contradiction | (simp_all; done) | (simp_all; omega))
end Go.Proofs.YtbjmdnemeidpjaaGreat
/- Numbers of any length: Add, Cmp. -/
namespace Go.Proofs.YtbjmdnemeidpjaaGreat
set_option linter.unusedSimpArgs false
set_option linter.unusedVariables false
open Go.RowKit
set_option maxRecDepth 100000
theorem add_num (x y : Int) (hx : (canL x.natAbs).length ≤ 1000000) (hy : (canL y.natAbs).length ≤ 1000000) (hs : (canL (x.natAbs + y.natAbs)).length ≤ 2000000) (hd : (canL (x.natAbs - y.natAbs)).length ≤ 2000000) (hd' : (canL (y.natAbs - x.natAbs)).length ≤ 2000000) :
    Sat Tryz.prog 61 [.d (numD x), .d (numD y)] [] (.d (numD (x + y))) [] := by
  have ab := above_sat (canL x.natAbs) (canL y.natAbs) (canL_dig _) (canL_dig _) (by omega) (by omega)
  have pl := plus_num (canL x.natAbs) (canL y.natAbs) (canL_dig _) (canL_dig _) (by omega) (by omega)
  have m1 := made_num (decide (x < 0)) (canL (x.natAbs + y.natAbs)) (canL_dig _) (by omega)
  rw [canL_val] at m1
  rw [canL_val, canL_val] at ab pl
  by_cases hsg : decide (x < 0) = decide (y < 0)
  · have e : (if decide (x < 0) = true then -((x.natAbs + y.natAbs : Nat) : Int) else ((x.natAbs + y.natAbs : Nat) : Int)) = x + y := by
      by_cases h : x < 0 <;> by_cases h' : y < 0 <;> simp [h, h'] at hsg ⊢ <;> omega
    rw [e] at m1
    refine sat_of_vc (T := tiOf Tryz.prog) (E := E0) Tryz.func61 rfl rfl hE0 hm0 rfl ?_
    conv => whnf
    repeat' (first | exact True.intro | ((first | refine Or.inl ?_ | refine And.intro (fun _ => ?_) tf | refine And.intro ft (fun _ => ?_) | refine And.intro (by kernel_rfl) ?_ | refine And.intro (by decide) ?_ | refine And.intro (fun _ => ?_) (fun h => absurd h (by decide)) | refine And.intro (fun h => absurd h (by decide)) (fun _ => ?_) | refine ⟨_, _, eqB (by kernel_rfl), ?_⟩ | refine ⟨_, _, pl.pu rfl rfl, ?_⟩ | refine ⟨_, _, m1.pu rfl rfl, ?_⟩ | fail); conv => whnf) | (refine And.intro (fun _ => ?_) (fun _ => ?_) <;> conv => whnf) | fail)
    all_goals try (exfalso; simp only [decide_eq_true_eq, decide_eq_false_iff_not, Bool.not_eq_true', Bool.not_eq_false', Bool.not_eq_true, Bool.not_eq_false, beq_iff_eq, bne_iff_ne, beq_eq_false_iff_ne, bne_eq_false_iff_eq, ne_eq, Decidable.not_not] at *; first | omega | contradiction | (simp_all; done) | (simp_all; omega))
    all_goals refine ⟨[], ?_⟩
    repeat (any_goals (first | exact True.intro | exact rfl | with_reducible_and_instances rfl | exact (by kernel_rfl) | refine And.intro ?_ ?_))
    all_goals conv => whnf
  · have hn : ¬ x.natAbs < y.natAbs ∨ x.natAbs < y.natAbs := by omega
    rcases hn with hn | hn
    · have mi := minus_num (canL x.natAbs) (canL y.natAbs) (canL_dig _) (canL_dig _) (by omega) (by rw [canL_val, canL_val]; omega)
      have m2 := made_num (decide (x < 0)) (canL (x.natAbs - y.natAbs)) (canL_dig _) (by omega)
      rw [canL_val, canL_val] at mi
      rw [canL_val] at m2
      have e : (if decide (x < 0) = true then -((x.natAbs - y.natAbs : Nat) : Int) else ((x.natAbs - y.natAbs : Nat) : Int)) = x + y := by
        by_cases h : x < 0 <;> by_cases h' : y < 0 <;> simp [h, h'] at hsg ⊢ <;> omega
      rw [e] at m2
      have hc : 0 ≤ cmpN x.natAbs y.natAbs := by unfold cmpN; split <;> (try split) <;> omega
      refine sat_of_vc (T := tiOf Tryz.prog) (E := E0) Tryz.func61 rfl rfl hE0 hm0 rfl ?_
      conv => whnf
      repeat' (first | exact True.intro | ((first | refine Or.inl ?_ | refine And.intro (fun _ => ?_) tf | refine And.intro ft (fun _ => ?_) | refine And.intro (by kernel_rfl) ?_ | refine And.intro (by decide) ?_ | refine And.intro (fun _ => ?_) (fun h => absurd h (by decide)) | refine And.intro (fun h => absurd h (by decide)) (fun _ => ?_) | refine ⟨_, _, eqB (by kernel_rfl), ?_⟩ | refine ⟨_, _, ab.pu rfl rfl, ?_⟩ | refine ⟨_, _, mi.pu rfl rfl, ?_⟩ | refine ⟨_, _, m2.pu rfl rfl, ?_⟩ | fail); conv => whnf) | (refine And.intro (fun _ => ?_) (fun _ => ?_) <;> conv => whnf) | fail)
      all_goals try (exfalso; simp only [decide_eq_true_eq, decide_eq_false_iff_not, Bool.not_eq_true', Bool.not_eq_false', Bool.not_eq_true, Bool.not_eq_false, beq_iff_eq, bne_iff_ne, beq_eq_false_iff_ne, bne_eq_false_iff_eq, ne_eq, Decidable.not_not] at *; first | omega | contradiction | (simp_all; done) | (simp_all; omega))
      all_goals refine ⟨[], ?_⟩
      repeat (any_goals (first | exact True.intro | exact rfl | with_reducible_and_instances rfl | exact (by kernel_rfl) | refine And.intro ?_ ?_))
      all_goals conv => whnf
    · have mi := minus_num (canL y.natAbs) (canL x.natAbs) (canL_dig _) (canL_dig _) (by omega) (by rw [canL_val, canL_val]; omega)
      have m2 := made_num (decide (y < 0)) (canL (y.natAbs - x.natAbs)) (canL_dig _) (by omega)
      rw [canL_val, canL_val] at mi
      rw [canL_val] at m2
      have e : (if decide (y < 0) = true then -((y.natAbs - x.natAbs : Nat) : Int) else ((y.natAbs - x.natAbs : Nat) : Int)) = x + y := by
        by_cases h : x < 0 <;> by_cases h' : y < 0 <;> simp [h, h'] at hsg ⊢ <;> omega
      rw [e] at m2
      have hc : cmpN x.natAbs y.natAbs < 0 := by unfold cmpN; rw [if_neg (by omega), if_pos hn]; decide
      refine sat_of_vc (T := tiOf Tryz.prog) (E := E0) Tryz.func61 rfl rfl hE0 hm0 rfl ?_
      conv => whnf
      repeat' (first | exact True.intro | ((first | refine Or.inl ?_ | refine And.intro (fun _ => ?_) tf | refine And.intro ft (fun _ => ?_) | refine And.intro (by kernel_rfl) ?_ | refine And.intro (by decide) ?_ | refine And.intro (fun _ => ?_) (fun h => absurd h (by decide)) | refine And.intro (fun h => absurd h (by decide)) (fun _ => ?_) | refine ⟨_, _, eqB (by kernel_rfl), ?_⟩ | refine ⟨_, _, ab.pu rfl rfl, ?_⟩ | refine ⟨_, _, mi.pu rfl rfl, ?_⟩ | refine ⟨_, _, m2.pu rfl rfl, ?_⟩ | fail); conv => whnf) | (refine And.intro (fun _ => ?_) (fun _ => ?_) <;> conv => whnf) | fail)
      all_goals try (exfalso; simp only [decide_eq_true_eq, decide_eq_false_iff_not, Bool.not_eq_true', Bool.not_eq_false', Bool.not_eq_true, Bool.not_eq_false, beq_iff_eq, bne_iff_ne, beq_eq_false_iff_ne, bne_eq_false_iff_eq, ne_eq, Decidable.not_not] at *; first | omega | contradiction | (simp_all; done) | (simp_all; omega))
      all_goals refine ⟨[], ?_⟩
      repeat (any_goals (first | exact True.intro | exact rfl | with_reducible_and_instances rfl | exact (by kernel_rfl) | refine And.intro ?_ ?_))
      all_goals conv => whnf
end Go.Proofs.YtbjmdnemeidpjaaGreat
/- Numbers of any length: bounds of their lengths; Cmp. -/
namespace Go.Proofs.YtbjmdnemeidpjaaGreat
set_option linter.unusedSimpArgs false
set_option linter.unusedVariables false
open Go.RowKit
set_option maxRecDepth 100000
/-- A number of few limbs. -/
def few (k : Nat) (z : Int) : Prop := z.natAbs < 65536 ^ k
theorem few_len {k : Nat} {z : Int} (h : few k z) : (canL z.natAbs).length ≤ k := canL_short k _ h
theorem few_neg {k : Nat} {z : Int} (h : few k z) : few k (-z) := by unfold few; rw [Int.natAbs_neg]; exact h
theorem few_sum {k : Nat} {n m : Nat} (h : n < 65536 ^ k) (h' : m < 65536 ^ k) : n + m < 65536 ^ (k + 1) := by
  rw [Nat.pow_succ]; omega
theorem few_i64 {z : Int} (h : -9223372036854775808 ≤ z ∧ z ≤ 9223372036854775807) : few 4 z := by
  unfold few
  rw [show (65536 : Nat) ^ 4 = 18446744073709551616 by decide]
  omega
/-- Sums of numbers of few limbs. -/
theorem add_few {k : Nat} {x y : Int} (hk : k ≤ 1000000) (hx : few k x) (hy : few k y) : Sat Tryz.prog 61 [.d (numD x), .d (numD y)] [] (.d (numD (x + y))) [] :=
  add_num x y (by have := few_len hx; omega) (by have := few_len hy; omega) (by have := canL_short (k + 1) _ (few_sum hx hy); omega)
    (by have := canL_short k (x.natAbs - y.natAbs) (Nat.lt_of_le_of_lt (Nat.sub_le _ _) hx); omega) (by have := canL_short k (y.natAbs - x.natAbs) (Nat.lt_of_le_of_lt (Nat.sub_le _ _) hy); omega)
theorem add_few_out {k : Nat} {x y : Int} (hx : few k x) (hy : few k y) : few (k + 1) (x + y) := Nat.lt_of_le_of_lt (Int.natAbs_add_le x y) (few_sum hx hy)
def cmpZ (x y : Int) : Int := if x = y then 0 else if x < y then -1 else 1
theorem cmp_num {k : Nat} {x y : Int} (hk : k ≤ 1000000) (hx : few k x) (hy : few k y) : Sat Tryz.prog 67 [.d (numD x), .d (numD y)] [] (iA (cmpZ x y)) [] := by
  have ng := neg_num y (by have := few_len hy; omega)
  have ad := add_few hk hx (few_neg hy)
  have hl : (((canL (x + -y).natAbs).map lR).length : Int) = 0 ↔ x = y := by
    rw [List.length_map]
    have h := canL_len (x + -y).natAbs
    have h := decide_eq_decide.1 h
    omega
  refine sat_of_vc (T := tiOf Tryz.prog) (E := E0) Tryz.func67 rfl rfl hE0 hm0 rfl ?_
  conv => whnf
  repeat' (first | exact True.intro | ((first | refine Or.inl ?_ | refine And.intro (fun _ => ?_) tf | refine And.intro ft (fun _ => ?_) | refine And.intro (by kernel_rfl) ?_ | refine And.intro (by decide) ?_ | refine And.intro (fun _ => ?_) (fun h => absurd h (by decide)) | refine And.intro (fun h => absurd h (by decide)) (fun _ => ?_) | refine ⟨_, _, ng.pu rfl rfl, ?_⟩ | refine ⟨_, _, ad.pu rfl rfl, ?_⟩ | fail); conv => whnf) | (refine And.intro (fun _ => ?_) (fun _ => ?_) <;> conv => whnf) | fail)
  · have h : x = y := by rename_i h; exact hl.1 (by simpa using h)
    have hr : cmpZ x y = 0 := by unfold cmpZ; rw [if_pos h]
    rw [hr]
    all_goals refine ⟨[], ?_⟩
    repeat (any_goals (first | exact True.intro | exact rfl | with_reducible_and_instances rfl | exact (by kernel_rfl) | refine And.intro ?_ ?_))
    all_goals conv => whnf
  · rename_i h0 h1
    have n0 : x ≠ y := fun e => by have := hl.2 e; rw [this] at h0; simp at h0
    have h1 : x + -y < 0 := of_decide_eq_true h1
    have hr : cmpZ x y = -1 := by unfold cmpZ; rw [if_neg n0, if_pos (by omega)]
    rw [hr]
    all_goals refine ⟨[], ?_⟩
    repeat (any_goals (first | exact True.intro | exact rfl | with_reducible_and_instances rfl | exact (by kernel_rfl) | refine And.intro ?_ ?_))
    all_goals conv => whnf
  · rename_i h0 h1
    have n0 : x ≠ y := fun e => by have := hl.2 e; rw [this] at h0; simp at h0
    have h1 : ¬ x + -y < 0 := of_decide_eq_false h1
    have hr : cmpZ x y = 1 := by unfold cmpZ; rw [if_neg n0, if_neg (by omega)]
    rw [hr]
    all_goals refine ⟨[], ?_⟩
    repeat (any_goals (first | exact True.intro | exact rfl | with_reducible_and_instances rfl | exact (by kernel_rfl) | refine And.intro ?_ ?_))
    all_goals conv => whnf
end Go.Proofs.YtbjmdnemeidpjaaGreat
/- Numbers of any length: Long. -/
namespace Go.Proofs.YtbjmdnemeidpjaaGreat
set_option linter.unusedSimpArgs false
set_option linter.unusedVariables false
open Go.RowKit
set_option maxRecDepth 100000
def longZ (z : Int) : Int × Bool := if 4 < (canL z.natAbs).length then (0, false) else if z < 0 then (if z < -9223372036854775808 then (0, false) else (z, true)) else (IntKind.i64.wrap z, decide (z < 9223372036854775808))
theorem long_num (z : Int) (hk : (canL z.natAbs).length ≤ 1000000) : Sat Tryz.prog 86 [.d (numD z)] [] (.tup [iA (longZ z).1, bA (longZ z).2]) [] := by
  by_cases h4 : 4 < (canL z.natAbs).length
  · have hr : longZ z = (0, false) := by unfold longZ; rw [if_pos h4]
    rw [hr]
    refine sat_of_vc (T := tiOf Tryz.prog) (E := E0) Tryz.func86 rfl rfl hE0 hm0 rfl ?_
    conv => whnf
    repeat' (first | exact True.intro | ((first | refine Or.inl ?_ | refine And.intro (fun _ => ?_) tf | refine And.intro ft (fun _ => ?_) | refine And.intro (by kernel_rfl) ?_ | refine And.intro (by decide) ?_ | refine And.intro (fun _ => ?_) (fun h => absurd h (by decide)) | refine And.intro (fun h => absurd h (by decide)) (fun _ => ?_) | fail); conv => whnf) | (refine And.intro (fun _ => ?_) (fun _ => ?_) <;> conv => whnf) | fail)
    all_goals try (exfalso; simp only [decide_eq_true_eq, decide_eq_false_iff_not, Bool.not_eq_true', Bool.not_eq_false', Bool.not_eq_true, Bool.not_eq_false, beq_iff_eq, bne_iff_ne, beq_eq_false_iff_ne, bne_eq_false_iff_eq, ne_eq, Decidable.not_not] at *; first | omega | contradiction | (simp_all; done) | (simp_all; omega))
    all_goals refine ⟨[], ?_⟩
    repeat (any_goals (first | exact True.intro | exact rfl | with_reducible_and_instances rfl | exact (by kernel_rfl) | refine And.intro ?_ ?_))
    all_goals conv => whnf
  have hd := canL_dig z.natAbs
  have hvl := canL_val z.natAbs
  have hlt := (valL_take (canL z.natAbs) 4 hd).2
  rw [List.take_of_length_le (by omega), hvl, show (65536 : Nat) ^ 4 = 18446744073709551616 by decide] at hlt
  refine sat_of_vc (T := tiOf Tryz.prog) (E := E0) Tryz.func86 rfl rfl hE0 hm0 rfl ?_
  conv => whnf
  repeat' (first | exact True.intro | ((first | refine And.intro (fun _ => ?_) tf | refine And.intro ft (fun _ => ?_) | refine And.intro (by kernel_rfl) ?_ | refine And.intro (by decide) ?_ | refine And.intro (fun _ => ?_) (fun h => absurd h (by decide)) | refine And.intro (fun h => absurd h (by decide)) (fun _ => ?_) | fail); conv => whnf) | (refine And.intro (fun _ => ?_) (fun _ => ?_) <;> conv => whnf) | fail)
  all_goals try (refine Or.inl ?_; conv => whnf)
  repeat' (first | exact True.intro | ((first | refine And.intro (fun _ => ?_) tf | refine And.intro ft (fun _ => ?_) | refine And.intro (by kernel_rfl) ?_ | refine And.intro (by decide) ?_ | refine And.intro (fun _ => ?_) (fun h => absurd h (by decide)) | refine And.intro (fun h => absurd h (by decide)) (fun _ => ?_) | fail); conv => whnf) | (refine And.intro (fun _ => ?_) (fun _ => ?_) <;> conv => whnf) | fail)
  all_goals try (exfalso; simp only [decide_eq_true_eq, decide_eq_false_iff_not, Bool.not_eq_true', Bool.not_eq_false', Bool.not_eq_true, Bool.not_eq_false, beq_iff_eq, bne_iff_ne, beq_eq_false_iff_ne, bne_eq_false_iff_eq, ne_eq, Decidable.not_not] at *; first | omega | contradiction | (simp_all; done) | (simp_all; omega))
  all_goals try (refine Or.inl ?_; conv => whnf)
  repeat' (first | exact True.intro | ((first | refine And.intro (fun _ => ?_) tf | refine And.intro ft (fun _ => ?_) | refine And.intro (by kernel_rfl) ?_ | refine And.intro (by decide) ?_ | refine And.intro (fun _ => ?_) (fun h => absurd h (by decide)) | refine And.intro (fun h => absurd h (by decide)) (fun _ => ?_) | fail); conv => whnf) | (refine And.intro (fun _ => ?_) (fun _ => ?_) <;> conv => whnf) | fail)
  all_goals try (refine Or.inl ?_; conv => whnf)
  repeat' (first | exact True.intro | ((first | refine And.intro (fun _ => ?_) tf | refine And.intro ft (fun _ => ?_) | refine And.intro (by kernel_rfl) ?_ | refine And.intro (by decide) ?_ | refine And.intro (fun _ => ?_) (fun h => absurd h (by decide)) | refine And.intro (fun h => absurd h (by decide)) (fun _ => ?_) | fail); conv => whnf) | (refine And.intro (fun _ => ?_) (fun _ => ?_) <;> conv => whnf) | fail)
  refine ⟨Nat, fun n => n ≤ (canL z.natAbs).length, fun n => ([(5, iA ((n : Int) - 1)), (4, .d (.v (.int .u64 (valL ((canL z.natAbs).drop n))))), (1, .ptr 0 0)], [.cells [bA (decide (z < 0)), .d (lD (canL z.natAbs))]]), fun n => n, ⟨(canL z.natAbs).length, Nat.le_refl _, ?_⟩, ?_⟩
  · all_goals refine ⟨[], ?_⟩
    repeat (any_goals (first | exact True.intro | exact rfl | with_reducible_and_instances rfl | exact (by kernel_rfl) | refine And.intro ?_ ?_))
    all_goals conv => whnf
    · rw [List.length_map, wi (by omega) (by omega)]
    · rw [List.drop_length]; rfl
  intro n hn
  conv => whnf
  cases n with
  | zero =>
    have hv0 : valL ((canL z.natAbs).drop 0) = z.natAbs := by rw [List.drop_zero, hvl]
    repeat' (first | exact True.intro | ((first | refine Or.inl ?_ | refine And.intro (fun _ => ?_) tf | refine And.intro ft (fun _ => ?_) | refine And.intro (by kernel_rfl) ?_ | refine And.intro (by decide) ?_ | refine And.intro (fun _ => ?_) (fun h => absurd h (by decide)) | refine And.intro (fun h => absurd h (by decide)) (fun _ => ?_) | fail); conv => whnf) | (refine And.intro (fun _ => ?_) (fun _ => ?_) <;> conv => whnf) | fail)
    all_goals try (exfalso; simp only [decide_eq_true_eq, decide_eq_false_iff_not, Bool.not_eq_true', Bool.not_eq_false', Bool.not_eq_true, Bool.not_eq_false, beq_iff_eq, bne_iff_ne, beq_eq_false_iff_ne, bne_eq_false_iff_eq, ne_eq, Decidable.not_not] at *; first | omega | contradiction | (simp_all; done) | (simp_all; omega))
    · rename_i h1 h2
      have h1 : z < 0 := of_decide_eq_true h1
      have h2 := of_decide_eq_true h2
      have hr : longZ z = (0, false) := by unfold longZ; rw [if_neg h4, if_pos h1, if_pos (by omega)]
      rw [hr]
      all_goals refine ⟨[], ?_⟩
      repeat (any_goals (first | exact True.intro | exact rfl | with_reducible_and_instances rfl | exact (by kernel_rfl) | refine And.intro ?_ ?_))
      all_goals conv => whnf
    · rename_i h1 h2
      have h1 : z < 0 := of_decide_eq_true h1
      have h2 := of_decide_eq_false h2
      have hr : longZ z = (z, true) := by unfold longZ; rw [if_neg h4, if_pos h1, if_neg (by omega)]
      rw [hr]
      have e : IntKind.i64.wrap (IntKind.i64.wrap (0 - IntKind.i64.wrap (IntKind.u64.wrap ((valL ((canL z.natAbs).drop 0) : Int) - 1))) - 1) = z := by
        rw [hv0, show IntKind.u64.wrap ((z.natAbs : Int) - 1) = (z.natAbs : Int) - 1 by rw [IntKind.wrap_u64]; omega, wi (n := (z.natAbs : Int) - 1) (by omega) (by omega), wi (n := 0 - ((z.natAbs : Int) - 1)) (by omega) (by omega), wi (by omega) (by omega)]
        omega
      all_goals refine ⟨[], ?_⟩
      repeat (any_goals (first | exact True.intro | exact rfl | with_reducible_and_instances rfl | exact (by kernel_rfl) | refine And.intro ?_ ?_))
      all_goals conv => whnf
      rw [e]
    · rename_i h1
      have h1 : ¬ z < 0 := of_decide_eq_false h1
      have e : (valL ((canL z.natAbs).drop 0) : Int) = z := by rw [hv0]; omega
      have hr : longZ z = (IntKind.i64.wrap z, decide (z < 9223372036854775808)) := by unfold longZ; rw [if_neg h4, if_neg h1]
      rw [hr, e]
      all_goals refine ⟨[], ?_⟩
      repeat (any_goals (first | exact True.intro | exact rfl | with_reducible_and_instances rfl | exact (by kernel_rfl) | refine And.intro ?_ ?_))
      all_goals conv => whnf
  | succ m =>
    have hm : m + 1 ≤ (canL z.natAbs).length := hn
    have hx : (canL z.natAbs)[m]? = some (canL z.natAbs)[m] := List.getElem?_eq_getElem (by omega)
    have em : ((m + 1 : Nat) : Int) - 1 = (m : Int) := by omega
    have hg : (canL z.natAbs)[m] = lb (canL z.natAbs) m := by unfold lb; rw [hx]; rfl
    have hb := lb_dig hd m
    have hs := valL_drop (canL z.natAbs) m
    have hle : valL ((canL z.natAbs).drop m) ≤ z.natAbs := by
      have h := (valL_take (canL z.natAbs) m hd).1
      rw [hvl] at h
      have : 1 * valL ((canL z.natAbs).drop m) ≤ 65536 ^ m * valL ((canL z.natAbs).drop m) := Nat.mul_le_mul_right _ (Nat.pos_of_ne_zero (by simp))
      omega
    repeat' (first | exact True.intro | ((first | refine ⟨m, _, em, map_get hx, ?_⟩ | refine Or.inl ?_ | refine And.intro (fun _ => ?_) tf | refine And.intro ft (fun _ => ?_) | refine And.intro (by kernel_rfl) ?_ | refine And.intro (by decide) ?_ | refine And.intro (fun _ => ?_) (fun h => absurd h (by decide)) | refine And.intro (fun h => absurd h (by decide)) (fun _ => ?_) | fail); conv => whnf) | (refine And.intro (fun _ => ?_) (fun _ => ?_) <;> conv => whnf) | fail)
    all_goals try (exfalso; simp only [decide_eq_true_eq, decide_eq_false_iff_not, Bool.not_eq_true', Bool.not_eq_false', Bool.not_eq_true, Bool.not_eq_false, beq_iff_eq, bne_iff_ne, beq_eq_false_iff_ne, bne_eq_false_iff_eq, ne_eq, Decidable.not_not] at *; first | omega | contradiction | (simp_all; done) | (simp_all; omega))
    refine ⟨m, show m ≤ _ by omega, Nat.lt_succ_self m, ?_⟩
    all_goals refine ⟨[], ?_⟩
    repeat (any_goals (first | exact True.intro | exact rfl | with_reducible_and_instances rfl | exact (by kernel_rfl) | refine And.intro ?_ ?_))
    all_goals conv => whnf
    · rw [em, wi (by omega) (by omega)]
    · rw [hg, IntKind.wrap_u64, IntKind.wrap_u64, IntKind.wrap_u64, hs]
      congr 3
      omega
end Go.Proofs.YtbjmdnemeidpjaaGreat
/- Numbers of any length: told, Plus, Minus, Total, Sum. -/
namespace Go.Proofs.YtbjmdnemeidpjaaGreat
set_option linter.unusedSimpArgs false
set_option linter.unusedVariables false
open Go.RowKit
set_option maxRecDepth 100000
def toldZ (z : Int) : Int × Int := if -9223372036854775808 ≤ z ∧ z ≤ 9223372036854775807 then (z, 0) else (0, 12)
theorem longZ_in {z : Int} (h : -9223372036854775808 ≤ z ∧ z ≤ 9223372036854775807) : longZ z = (z, true) := by
  have hl := few_len (few_i64 h)
  unfold longZ
  rw [if_neg (by omega)]
  split
  · rw [if_neg (by omega)]
  · rw [wi (by omega) (by omega), decide_eq_true (by omega)]
theorem longZ_out {z : Int} (h : ¬ (-9223372036854775808 ≤ z ∧ z ≤ 9223372036854775807)) : (longZ z).2 = false := by
  unfold longZ
  split
  · rfl
  · split
    · rw [if_pos (by omega)]
    · exact decide_eq_false (by omega)
theorem told_num (z : Int) (hk : (canL z.natAbs).length ≤ 1000000) : Sat Tryz.prog 98 [.d (numD z)] [] (.tup [iA (toldZ z).1, iA (toldZ z).2]) [] := by
  have lg := long_num z hk
  by_cases h : -9223372036854775808 ≤ z ∧ z ≤ 9223372036854775807
  · have hr : toldZ z = (z, 0) := by unfold toldZ; rw [if_pos h]
    rw [longZ_in h] at lg
    rw [hr]
    refine sat_of_vc (T := tiOf Tryz.prog) (E := E0) Tryz.func98 rfl rfl hE0 hm0 rfl ?_
    conv => whnf
    repeat' (first | exact True.intro | ((first | refine Or.inl ?_ | refine And.intro (fun _ => ?_) tf | refine And.intro ft (fun _ => ?_) | refine And.intro (by kernel_rfl) ?_ | refine And.intro (by decide) ?_ | refine And.intro (fun _ => ?_) (fun h => absurd h (by decide)) | refine And.intro (fun h => absurd h (by decide)) (fun _ => ?_) | refine ⟨_, _, lg.pu rfl rfl, ?_⟩ | fail); conv => whnf) | (refine And.intro (fun _ => ?_) (fun _ => ?_) <;> conv => whnf) | fail)
    all_goals try (exfalso; simp only [decide_eq_true_eq, decide_eq_false_iff_not, Bool.not_eq_true', Bool.not_eq_false', Bool.not_eq_true, Bool.not_eq_false, beq_iff_eq, bne_iff_ne, beq_eq_false_iff_ne, bne_eq_false_iff_eq, ne_eq, Decidable.not_not] at *; first | omega | contradiction | (simp_all; done) | (simp_all; omega))
    all_goals refine ⟨[], ?_⟩
    repeat (any_goals (first | exact True.intro | exact rfl | with_reducible_and_instances rfl | exact (by kernel_rfl) | refine And.intro ?_ ?_))
    all_goals conv => whnf
  · have hr : toldZ z = (0, 12) := by unfold toldZ; rw [if_neg h]
    rw [longZ_out h] at lg
    rw [hr]
    refine sat_of_vc (T := tiOf Tryz.prog) (E := E0) Tryz.func98 rfl rfl hE0 hm0 rfl ?_
    conv => whnf
    repeat' (first | exact True.intro | ((first | refine Or.inl ?_ | refine And.intro (fun _ => ?_) tf | refine And.intro ft (fun _ => ?_) | refine And.intro (by kernel_rfl) ?_ | refine And.intro (by decide) ?_ | refine And.intro (fun _ => ?_) (fun h => absurd h (by decide)) | refine And.intro (fun h => absurd h (by decide)) (fun _ => ?_) | refine ⟨_, _, lg.pu rfl rfl, ?_⟩ | fail); conv => whnf) | (refine And.intro (fun _ => ?_) (fun _ => ?_) <;> conv => whnf) | fail)
    all_goals try (exfalso; simp only [decide_eq_true_eq, decide_eq_false_iff_not, Bool.not_eq_true', Bool.not_eq_false', Bool.not_eq_true, Bool.not_eq_false, beq_iff_eq, bne_iff_ne, beq_eq_false_iff_ne, bne_eq_false_iff_eq, ne_eq, Decidable.not_not] at *; first | omega | contradiction | (simp_all; done) | (simp_all; omega))
    all_goals refine ⟨[], ?_⟩
    repeat (any_goals (first | exact True.intro | exact rfl | with_reducible_and_instances rfl | exact (by kernel_rfl) | refine And.intro ?_ ?_))
    all_goals conv => whnf
end Go.Proofs.YtbjmdnemeidpjaaGreat
/- Bits of limbs. -/
namespace Go.Proofs.YtbjmdnemeidpjaaGreat
set_option linter.unusedSimpArgs false
set_option linter.unusedVariables false
open Go.RowKit
theorem lb_canL (A i : Nat) : lb (canL A) i = ((A / 65536 ^ i % 65536 : Nat) : Int) := by
  have h := valL_take (canL A) i (canL_dig A)
  have hb := lb_dig (canL_dig A) i
  rw [canL_val] at h
  have hd := valL_drop (canL A) i
  have e : A / 65536 ^ i = valL ((canL A).drop i) := by
    have h1 := h.1
    have h2 := h.2
    generalize valL ((canL A).drop i) = V at *
    generalize valL ((canL A).take i) = T at *
    rw [h1, Nat.add_mul_div_left _ _ (Nat.pow_pos (by omega)), Nat.div_eq_of_lt h2, Nat.zero_add]
  rw [e, hd]
  omega
theorem bit_of (A n : Nat) : (A / 65536 ^ (n / 16) % 65536) / 2 ^ (n % 16) % 2 = A / 2 ^ n % 2 := by
  have e1 : (65536 : Nat) ^ (n / 16) = 2 ^ (16 * (n / 16)) := by rw [Nat.pow_mul]
  have e2 : (65536 : Nat) = 2 ^ (n % 16) * 2 ^ (16 - n % 16) := by
    rw [← Nat.pow_add, show n % 16 + (16 - n % 16) = 16 by omega]
  have e3 : (2 : Nat) ^ n = 2 ^ (16 * (n / 16)) * 2 ^ (n % 16) := by rw [← Nat.pow_add, Nat.div_add_mod]
  rw [e1, e3, ← Nat.div_div_eq_div_mul]
  generalize A / 2 ^ (16 * (n / 16)) = B
  conv => lhs; rw [e2]
  rw [Nat.mod_mul_right_div_self, show 2 ^ (16 - n % 16) = 2 * 2 ^ (15 - n % 16) by rw [← Nat.pow_succ']; congr 1; omega, Nat.mod_mul_right_mod]
end Go.Proofs.YtbjmdnemeidpjaaGreat
