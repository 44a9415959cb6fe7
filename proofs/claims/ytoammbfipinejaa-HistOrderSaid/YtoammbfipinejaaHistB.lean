/- Histograms: valid, Add. -/
import Derived.Test.YtoammbfipinejaaHistA
namespace Go.Proofs.Ytoammbfipinejaa
open Go.RowKit
set_option linter.unusedVariables false
set_option linter.unusedSimpArgs false
theorem index_h (l : List Int) (k : Nat) (x : Int) (w : World) (hk : k < 65) (hx : l[k]? = some x) :
    (Instr.index 69 (.agg (hc l)) (.int .i64 (k : Int))).run Try.prog w = .ok (.int .i64 x) w := by
  have hp : (hc l)[k]? = some (.int .i64 x) := by rw [hc_get, hx]; rfl
  have hu := run_underlying Try.underlying69 w
  have hagg : (isAgg 2).run Try.prog w = .ok false w := by kernel_rfl
  have hsz : (sizeOf 2).run Try.prog w = .ok 1 w := by kernel_rfl
  unfold Instr.index
  simp only [asIntOf, Sem.run_bind, Sem.run_pure, Result.andThen_ok, hu]
  rw [if_pos (by omega)]
  simp only [Sem.run_bind, hsz, Result.andThen_ok, Nat.mul_one]
  unfold part
  simp [Sem.run_bind, hagg, hp, Result.andThen]
theorem info69z : (Try.prog.info? 69).map (·.size) = some Try.zeroCells69.size := by kernel_rfl
theorem zero_one : Try.zeroCells69.all (·.oneCell') = true := by kernel_rfl
set_option maxRecDepth 100000 in
theorem valid_any (l : List Int) (w : World) (hl : l.length = 65) :
    Calls Try.prog 73 #[.agg (hc l)] w fun e w' => e = .returned (.bool (l.all (fun x => decide (0 ≤ x)))) ∧ Below w.heap.size w w' := by
  have H9 := hide hl
  have hb := Blk.new w 69 (hc l)
  have H1 := hide hb
  clear hb
  go_enter Try.func73, Try.ntmps73
  go_wp2_with (refine wpList_load_blk rfl 69 (.tmp 1) rfl _ rfl (hc l) _ H1.out Try.underlying69 rfl (info69l H9.out) ?_)
  clear H1
  have hbl : Below w.heap.size w (w.alloc (.cells (hc l) 69)) := (Below.refl _ _).alloc (Nat.le_refl _) _
  generalize w.alloc (.cells (hc l) 69) = w1 at hbl ⊢
  go_loopw [2, 4, 6] (fun _ _ i wr => ∃ (k : Nat), k ≤ 65 ∧ i = .int .i64 k ∧ wr = w1 ∧ Hid ((l.take k).all (fun x => decide (0 ≤ x)) = true)) (fun _ _ i _ => 65 - (intOf i).toNat)
  case atStart => exact ⟨0, by omega, rfl, rfl, hide (by simp)⟩
  case round =>
    obtain ⟨k, hk, rfl, rfl, HK⟩ := hrel
    by_cases hk1 : k < 65
    · obtain ⟨x, hx⟩ : ∃ x, l[k]? = some x := ⟨l[k], List.getElem?_eq_getElem (by omega)⟩
      have hix := fun w => index_h l k x w hk1 hx
      have HX := hide hx
      clear hx
      by_cases h0 : x < 0
      · go_wp2_with fail
        go_ret
        refine ⟨ret_bool ?_, hbl⟩
        symm
        rw [List.all_eq_false]
        exact ⟨x, List.mem_of_getElem? HX.out, by simpa using h0⟩
      · go_wp2_with fail
        go_roundw
        case rel => exact ⟨k + 1, by omega, by go_num, trivial, hide (by rw [List.take_add_one, HX.out, List.all_append, HK.out]; simp; omega)⟩
        case measure => simp [intOf]; omega
    · have htk : l.take k = l := List.take_of_length_le (by have := H9.out; omega)
      have hs := HK.out
      rw [htk] at hs
      have HS := hide hs
      clear hs HK
      go_wp2_with fail
      go_ret
      exact ⟨ret_bool HS.out.symm, hbl⟩
def okH (l : List Int) : Bool := l.all (fun x => decide (0 ≤ x))
def addE (l : List Int) (v : Int) : Nat := if okH l = false then 10 else if l[bkt v]? = some 9223372036854775807 then 12 else 0
def addL (l : List Int) (v : Int) : List Int := if addE l v = 0 then bump l (bkt v) else z65
set_option maxHeartbeats 1000000 in
set_option maxRecDepth 100000 in
theorem add_any (l : List Int) (v : Int) (w : World) (hl : l.length = 65) (h1 : -9223372036854775808 ≤ v) (h2 : v ≤ 9223372036854775807) (hw : ∀ x ∈ l, x ≤ 9223372036854775807) :
    Calls Try.prog 43 #[.agg (hc l), .int .i64 v] w fun e w' => e = .returned (.tuple #[.agg (hc (addL l v)), .int .i64 (addE l v)]) ∧ Below w.heap.size w w' := by
  have H9 := hide hl
  have HB := hide (fun w => bucket_any v w h1 h2)
  have hlt := bkt_lt v h2
  have HE : Hid (addE l v = if okH l = false then 10 else if l[bkt v]? = some 9223372036854775807 then 12 else 0) := hide rfl
  have HL : Hid (addL l v = if addE l v = 0 then bump l (bkt v) else z65) := hide rfl
  obtain ⟨y, hy⟩ : ∃ y, l[bkt v]? = some y := ⟨l[bkt v], List.getElem?_eq_getElem (by omega)⟩
  have hyb := hw y (List.mem_of_getElem? hy)
  have HY := hide hy
  have HV := hide (fun w => valid_any l w hl)
  clear hw hy h1 h2
  generalize addE l v = E at *
  generalize addL l v = L at *
  generalize bkt v = b at *
  have HO : Hid (okH l = l.all (fun x => decide (0 ≤ x))) := hide rfl
  generalize hq : okH l = q at *
  rw [← HO.out] at HV
  have H1 := hide ((Blk.new w 69 (hc l)).alloc (.cells Try.zeroCells69 69))
  have H2 := hide (by simpa using Blk.new (w.alloc (.cells (hc l) 69)) 69 Try.zeroCells69 : Blk ((w.alloc (.cells (hc l) 69)).alloc (.cells Try.zeroCells69 69)) (w.heap.size + 1) 69 Try.zeroCells69)
  have hb2 := hide (show Below w.heap.size w ((w.alloc (.cells (hc l) 69)).alloc (.cells Try.zeroCells69 69)) from ((Below.refl _ _).alloc (Nat.le_refl _) _).alloc (by simp) _)
  cases q with
  | false =>
    have he := HE.out
    rw [if_pos rfl] at he
    have hL := HL.out
    rw [he, if_neg (by omega)] at hL
    subst he; subst hL
    clear HE HL
    go_enter Try.func43, Try.ntmps43
    go_wp2_with (first
      | refine wpList_load_blk rfl 69 (.tmp 2) rfl _ rfl (hc l) _ H1.out Try.underlying69 rfl (info69l H9.out) ?_
      | (go_at_call 73; refine (HV.out _).mono ?_; rintro e w3 ⟨rfl, hb3⟩; have H23 := hide (H2.out.next hb3); have HB3 := hide (hb2.out.trans (hb3.mono hb2.out.size)); clear hb3)
      | refine wpList_store_blk rfl 69 (.tmp 4) (.tmp 10) rfl _ rfl Try.zeroCells69 Try.zeroCells69 rfl H23.out rfl info69z zero_one ?_)
    exact bodyPost_ret_by (results_cell2 rfl _ (w.heap.size + 1) rfl Try.zeroCells69 _ (H23.out.setRow _) Try.underlying69 rfl info69z) rfl ⟨by rw [hc_z65]; rfl, below_setRow HB3.out (by omega) _⟩
  | true =>
    have he := HE.out
    rw [if_neg (by simp), HY.out] at he
    by_cases hm : y = 9223372036854775807
    · subst hm
      rw [if_pos rfl] at he
      have hL := HL.out
      rw [he, if_neg (by omega)] at hL
      subst he; subst hL
      clear HE HL
      go_enter Try.func43, Try.ntmps43
      go_wp2_with (first
      | refine wpList_load_blk rfl 69 (.tmp 2) rfl _ rfl (hc l) _ H1.out Try.underlying69 rfl (info69l H9.out) ?_
      | (go_at_call 73; refine (HV.out _).mono ?_; rintro e w3 ⟨rfl, hb3⟩; have H13 := H1.out.next hb3; have c1 := H13.cell b; rw [hc_get, HY.out] at c1; simp only [Option.map_some, i64v] at c1; have f1 := H13.frozen b; have H13' := hide H13; clear H13; have H23 := hide (H2.out.next hb3); have HB3 := hide (hb2.out.trans (hb3.mono hb2.out.size)); clear hb3)
      | (go_at_call 52; refine (HB.out _).mono ?_; rintro e w' ⟨rfl, rfl⟩)
      | refine wpList_store_blk rfl 69 (.tmp 4) (.tmp 17) rfl _ rfl Try.zeroCells69 Try.zeroCells69 rfl H23.out rfl info69z zero_one ?_)
      exact bodyPost_ret_by (results_cell2 rfl _ (w.heap.size + 1) rfl Try.zeroCells69 _ (H23.out.setRow _) Try.underlying69 rfl info69z) rfl ⟨by rw [hc_z65]; rfl, below_setRow HB3.out (by omega) _⟩
    · rw [if_neg (by intro h; injection h with h; exact hm h)] at he
      have hL := HL.out
      rw [he, if_pos rfl, bump, HY.out] at hL
      subst he
      have HL2 := hide hL
      have HLL := hide (show L.length = 65 by rw [hL, List.length_set, H9.out])
      clear HE HL hL
      have hme : (y == 9223372036854775807) = false := by simpa using hm
      have hy0 : 0 ≤ y := by simpa using (List.all_eq_true.1 HO.out.symm) y (List.mem_of_getElem? HY.out)
      have hy1 : y < 9223372036854775807 := by omega
      clear hm hyb
      go_enter Try.func43, Try.ntmps43
      go_wp2_with (first
      | refine wpList_load_blk rfl 69 (.tmp 2) rfl _ rfl (hc l) _ H1.out Try.underlying69 rfl (info69l H9.out) ?_
      | (go_at_call 73; refine (HV.out _).mono ?_; rintro e w3 ⟨rfl, hb3⟩; have H13 := H1.out.next hb3; have c1 := H13.cell b; rw [hc_get, HY.out] at c1; simp only [Option.map_some, i64v] at c1; have f1 := H13.frozen b; have H13' := hide H13; clear H13; have H23 := hide (H2.out.next hb3); have HB3 := hide (hb2.out.trans (hb3.mono hb2.out.size)); clear hb3)
      | (go_at_call 52; refine (HB.out _).mono ?_; rintro e w' ⟨rfl, rfl⟩)
      | (refine wpList_load_blk rfl 69 (.tmp 2) rfl w.heap.size rfl (hc L) _ (by rw [HL2.out]; have h := H13'.out.set_ b (.int .i64 (y + 1)); rw [hc_set] at h; exact h) Try.underlying69 rfl (info69l HLL.out) ?_)
      | (refine wpList_store_blk rfl 69 (.tmp 4) (.tmp 23) rfl (w.heap.size + 1) rfl Try.zeroCells69 (hc L) rfl (H23.out.far (by simp) _) (by rw [hc_size, HLL.out]; rfl) (info69l HLL.out) (hc_one L) ?_))
      exact bodyPost_ret_by (results_cell2 rfl _ (w.heap.size + 1) rfl (hc L) _ ((H23.out.far (p := ⟨w.heap.size, b, none⟩) (by simp) (.int .i64 (y + 1))).setRow _) Try.underlying69 rfl (info69l HLL.out)) rfl ⟨rfl, below_setRow (HB3.out.setCell (p := ⟨w.heap.size, b, none⟩) (by simp) (.int .i64 (y + 1))) (by omega) _⟩
end Go.Proofs.Ytoammbfipinejaa
