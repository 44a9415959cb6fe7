/- Histograms: Merge. -/
import Derived.Test.YtoammbfipinejaaHistD
namespace Go.Proofs.Ytoammbfipinejaa
open Go.RowKit
set_option linter.unusedVariables false
set_option linter.unusedSimpArgs false
def flat (ls : List (List Int)) : List Value := (ls.map fun l => l.map i64v).flatten
theorem flat_get : ∀ (ls : List (List Int)) (k j : Nat) (l : List Int), (∀ l ∈ ls, l.length = 65) → ls[k]? = some l → j < 65 → (flat ls)[k * 65 + j]? = l[j]?.map i64v
  | [], k, j, l, _, h, _ => by simp at h
  | x :: r, 0, j, l, hl, h, hj => by
    have hx := hl x (by simp)
    simp only [List.getElem?_cons_zero, Option.some.injEq] at h
    subst h
    unfold flat
    rw [List.map_cons, List.flatten_cons, Nat.zero_mul, Nat.zero_add, List.getElem?_append_left (by simp; omega), List.getElem?_map]
  | x :: r, k + 1, j, l, hl, h, hj => by
    have hx := hl x (by simp)
    simp only [List.getElem?_cons_succ] at h
    have ih := flat_get r k j l (fun y hy => hl y (List.mem_cons_of_mem _ hy)) h hj
    unfold flat at ih ⊢
    rw [List.map_cons, List.flatten_cons, List.getElem?_append_right (by simp; omega), ← ih]
    congr 1
    simp
    omega
theorem flat_len : ∀ (ls : List (List Int)), (∀ l ∈ ls, l.length = 65) → (flat ls).length = ls.length * 65
  | [], _ => by simp [flat]
  | x :: r, hl => by
    have ih := flat_len r (fun y hy => hl y (List.mem_cons_of_mem _ hy))
    have hx := hl x (by simp)
    unfold flat at ih ⊢
    rw [List.map_cons, List.flatten_cons, List.length_append, ih, List.length_map, hx, List.length_cons]
    omega
theorem Rd.row {w : World} {B n : Nat} {A : Option Addr} {ls : List (List Int)} (h : Rd w B 65 A n (flat ls)) (hl : ∀ l ∈ ls, l.length = 65) {k : Nat} (hk : k < n) :
    ∃ b off, A = some ⟨b, off, none⟩ ∧ b < B ∧ ∃ l, ls[k]? = some l ∧ l.length = 65 ∧ w.rangeAt b (off + k * 65) (hc l).toList := by
  have hlen := h.1
  rw [flat_len ls hl] at hlen
  obtain ⟨b, off, e, hb, hc'⟩ := h.2 (by omega)
  have hkl : k < ls.length := by omega
  have hmem := List.getElem_mem hkl
  refine ⟨b, off, e, hb, ls[k], List.getElem?_eq_getElem hkl, hl _ hmem, fun j v hv => ?_⟩
  have hv' : ls[k][j]?.map i64v = some v := by
    have : (hc ls[k]).toList[j]? = ls[k][j]?.map i64v := by simp [hc]
    rw [← this]; exact hv
  have hj : j < 65 := by
    rcases Nat.lt_or_ge j ls[k].length with h1 | h1
    · rw [hl _ hmem] at h1; exact h1
    · rw [List.getElem?_eq_none h1] at hv'; simp at hv'
  have hf := flat_get ls k j ls[k] hl (List.getElem?_eq_getElem hkl) hj
  rw [hv'] at hf
  have h2 : k * 65 + j < (flat ls).length := (List.getElem?_eq_some_iff.1 hf).1
  have h3 := hc' (k * 65 + j) h2
  rw [Nat.add_assoc, h3]
  rw [List.getElem?_eq_getElem h2] at hf
  exact hf
def sumAt (ls : List (List Int)) (j : Nat) : Int := (ls.map fun l => l[j]?.getD 0).sum
def mergeL (ls : List (List Int)) : List Int := (List.range 65).map (sumAt ls)
def mergeE (ls : List (List Int)) : Nat := if ls.all okH = false then 10 else if (List.range 65).any (fun j => decide (9223372036854775807 < sumAt ls j)) then 12 else 0
def mergeR (ls : List (List Int)) : List Int := if mergeE ls = 0 then mergeL ls else z65
theorem sumAt_snoc {ls : List (List Int)} {k : Nat} {l : List Int} (h : ls[k]? = some l) (j : Nat) : sumAt (ls.take (k + 1)) j = sumAt (ls.take k) j + l[j]?.getD 0 := by
  unfold sumAt
  rw [List.take_add_one, h, List.map_append, List.sum_append]
  simp
theorem okH_at {l : List Int} (h : okH l = true) (j : Nat) : 0 ≤ l[j]?.getD 0 := by
  unfold okH at h
  rw [List.all_eq_true] at h
  cases hj : l[j]? with
  | none => simp
  | some x => simpa using h x (List.mem_of_getElem? hj)
theorem sumAt_nonneg : ∀ (ls : List (List Int)) (j : Nat), ls.all okH = true → 0 ≤ sumAt ls j
  | [], j, _ => by simp [sumAt]
  | l :: r, j, h => by
    rw [List.all_cons, Bool.and_eq_true] at h
    have h1 := sumAt_nonneg r j h.2
    have h2 := okH_at h.1 j
    unfold sumAt at h1 ⊢
    rw [List.map_cons, List.sum_cons]
    omega
theorem sumAt_take_le (ls : List (List Int)) (k j : Nat) (h : ls.all okH = true) : sumAt (ls.take k) j ≤ sumAt ls j := by
  have h1 : sumAt ls j = sumAt (ls.take k) j + sumAt (ls.drop k) j := by
    unfold sumAt
    rw [← List.sum_append, ← List.map_append, List.take_append_drop]
  have h2 : 0 ≤ sumAt (ls.drop k) j := sumAt_nonneg _ j (by
    rw [List.all_eq_true] at h ⊢
    exact fun x hx => h x (List.mem_of_mem_drop hx))
  omega
/-- Behind k whole lists, and j counts of the next one. -/
def mixL (ls : List (List Int)) (k j : Nat) : List Int := (List.range 65).map fun i => if i < j then sumAt (ls.take (k + 1)) i else sumAt (ls.take k) i
theorem mixL_len (ls : List (List Int)) (k j : Nat) : (mixL ls k j).length = 65 := by simp [mixL]
theorem mixL_at (ls : List (List Int)) (k j : Nat) (hj : j < 65) : (mixL ls k j)[j]? = some (sumAt (ls.take k) j) := by
  unfold mixL
  rw [List.getElem?_map, List.getElem?_range hj]
  simp
theorem mixL_set (ls : List (List Int)) (k j : Nat) (hj : j < 65) : (mixL ls k j).set j (sumAt (ls.take (k + 1)) j) = mixL ls k (j + 1) := by
  apply List.ext_getElem?
  intro i
  rw [List.getElem?_set]
  unfold mixL
  by_cases h : j = i
  · subst h
    simp [hj]
  · rw [if_neg h, List.getElem?_map, List.getElem?_map]
    by_cases hi : i < 65
    · rw [List.getElem?_range hi]
      simp only [Option.map_some]
      congr 1
      by_cases h1 : i < j
      · rw [if_pos h1, if_pos (by omega)]
      · rw [if_neg h1, if_neg (by omega)]
    · rw [List.getElem?_eq_none (by simp; omega)]
      rfl
theorem mixL_end (ls : List (List Int)) (k : Nat) : mixL ls k 65 = mixL ls (k + 1) 0 := by
  unfold mixL
  refine List.map_congr_left fun i hi => ?_
  rw [if_pos (List.mem_range.1 hi), if_neg (by omega)]
theorem mixL_zero (ls : List (List Int)) : mixL ls 0 0 = z65 := by
  unfold mixL
  have : ∀ i ∈ List.range 65, (if i < 0 then sumAt (ls.take (0 + 1)) i else sumAt (ls.take 0) i) = 0 := by
    intro i _
    rw [if_neg (by omega)]
    simp [sumAt]
  rw [List.map_congr_left this]
  rfl
theorem mixL_all (ls : List (List Int)) : mixL ls ls.length 0 = mergeL ls := by
  unfold mixL mergeL
  refine List.map_congr_left fun i hi => ?_
  rw [if_neg (by omega), List.take_length]
set_option maxHeartbeats 1000000 in
set_option maxRecDepth 100000 in
theorem merge_any (A : Option Addr) (n c : Nat) (ls : List (List Int)) (w : World) (hr : Rd w w.heap.size 65 A n (flat ls)) (hn : n ≤ 65536) (hl : ∀ l ∈ ls, l.length = 65) (hx : ∀ l ∈ ls, ∀ x ∈ l, -9223372036854775808 ≤ x ∧ x ≤ 9223372036854775807) :
    Calls Try.prog 40 #[.slice A n c] w fun e w' => e = .returned (.tuple #[.agg (hc (mergeR ls)), .int .i64 (mergeE ls)]) ∧ Below w.heap.size w w' := by
  have HLN := hide (show ls.length = n by have h1 := hr.1; rw [flat_len ls hl] at h1; omega)
  have HL := hide hl
  have HX := hide hx
  clear hl hx
  obtain ⟨E, hE⟩ : ∃ E, E = mergeE ls := ⟨_, rfl⟩
  obtain ⟨R, hR⟩ : ∃ R, R = mergeR ls := ⟨_, rfl⟩
  rw [← hE, ← hR]
  have HE := hide hE
  have HR := hide hR
  clear hE hR
  go_enter Try.func40, Try.ntmps40
  go_wp2_with fail
  have hb0 : Blk (w.alloc (.cells Try.zeroCells69 69)) w.heap.size 69 Try.zeroCells69 := Blk.new _ _ _
  have hbl0 : Below w.heap.size w (w.alloc (.cells Try.zeroCells69 69)) := (Below.refl _ _).alloc (Nat.le_refl _) _
  generalize w.alloc (.cells Try.zeroCells69 69) = w1 at hb0 hbl0 ⊢
  go_loopw [3, 5, 13] (fun _ _ i wr => ∃ (k : Nat), k ≤ n ∧ i = .int .i64 k ∧ Hid (Blk wr w.heap.size 69 Try.zeroCells69) ∧ Hid (Below w.heap.size w wr) ∧ Hid (∀ (j : Nat) (l : List Int), j < k → ls[j]? = some l → okH l = true)) (fun _ _ i _ => n - (intOf i).toNat)
  case atStart => exact ⟨0, Nat.zero_le _, rfl, hide hb0, hide hbl0, hide (fun j l hj => by omega)⟩
  case round =>
    clear hb0 hbl0
    obtain ⟨k, hk, rfl, HB0, HBL, HK⟩ := hrel
    by_cases hk1 : k < n
    · obtain ⟨ba, off, rfl, hbb, l, hls, hll, hrg⟩ := hr.row HL.out hk1
      have hrg2 : wr.rangeAt ba (off + k * 65) (hc l).toList := fun j v hv => (HBL.out.cell (p := ⟨ba, off + k * 65 + j, none⟩) hbb).trans (hrg j v hv)
      have HRG := hide hrg2
      clear hrg hrg2
      have HV := hide (fun w => valid_any l w hll)
      have HO : Hid (okH l = l.all (fun x => decide (0 ≤ x))) := hide rfl
      rw [← HO.out] at HV
      have HNW := hide (Blk.new wr 69 Try.zeroCells69)
      have HBW := hide (below_setRow (B := w.heap.size) (HBL.out.alloc HBL.out.size (.cells Try.zeroCells69 69)) (g := wr.heap.size) HBL.out.size (hc l))
      have HBZ := hide ((HB0.out.alloc (.cells Try.zeroCells69 69)).setRow_far (g := wr.heap.size) (by have := HB0.out.lt; omega) (hc l))
      have HLS := hide hls
      clear hls
      generalize hq : okH l = q at *
      have HQ := hide hq
      clear hq
      cases q with
      | false =>
        have he := HE.out
        have hE10 : E = 10 := by
          rw [he, mergeE, if_pos]
          rw [List.all_eq_false]
          exact ⟨l, List.mem_of_getElem? HLS.out, by rw [HQ.out]; simp⟩
        have hR0 : R = z65 := by
          have := HR.out
          rw [mergeR, ← HE.out, hE10, if_neg (by omega)] at this
          exact this
        clear he HE HR
        subst hE10
        subst hR0
        go_wp2_with (first
          | refine wpList_load_mid rfl 69 (.tmp 15) rfl ba (off + k * 65) rfl (hc l).toList _ HRG.out Try.underlying69 rfl (by rw [Array.length_toList]; exact info69l hll) ?_
          | refine wpList_store_blk rfl 69 (.tmp 5) (.tmp 16) rfl wr.heap.size rfl Try.zeroCells69 (hc l) rfl HNW.out (by rw [hc_size, hll]; rfl) (info69l hll) (hc_one l) ?_
          | refine wpList_load_blk rfl 69 (.tmp 5) rfl wr.heap.size rfl (hc l) _ (HNW.out.setRow _) Try.underlying69 rfl (info69l hll) ?_
          | (go_at_call 73; refine (HV.out _).mono ?_; rintro e w3 ⟨rfl, hb3⟩; have HB3 := hide (HBZ.out.next hb3); have HBL3 := hide (HBW.out.trans (hb3.mono HBW.out.size)); clear hb3)
          | refine wpList_store_blk rfl 69 (.tmp 2) (.tmp 20) rfl w.heap.size rfl Try.zeroCells69 Try.zeroCells69 rfl HB3.out rfl info69z zero_one ?_)
        exact bodyPost_ret_by (results_cell2 rfl _ w.heap.size rfl Try.zeroCells69 _ (HB3.out.setRow _) Try.underlying69 rfl info69z) rfl ⟨by rw [hc_z65]; rfl, below_setRow HBL3.out (by omega) _⟩
      | true =>
        go_wp2_with (first
          | refine wpList_load_mid rfl 69 (.tmp 15) rfl ba (off + k * 65) rfl (hc l).toList _ HRG.out Try.underlying69 rfl (by rw [Array.length_toList]; exact info69l hll) ?_
          | refine wpList_store_blk rfl 69 (.tmp 5) (.tmp 16) rfl wr.heap.size rfl Try.zeroCells69 (hc l) rfl HNW.out (by rw [hc_size, hll]; rfl) (info69l hll) (hc_one l) ?_
          | refine wpList_load_blk rfl 69 (.tmp 5) rfl wr.heap.size rfl (hc l) _ (HNW.out.setRow _) Try.underlying69 rfl (info69l hll) ?_
          | (go_at_call 73; refine (HV.out _).mono ?_; rintro e w3 ⟨rfl, hb3⟩; have HB3 := hide (HBZ.out.next hb3); have HBL3 := hide (HBW.out.trans (hb3.mono HBW.out.size)); clear hb3))
        go_roundw
        case rel =>
          refine ⟨k + 1, by omega, by go_num, HB3, HBL3, hide (fun j l' hj hl' => ?_)⟩
          rcases Nat.lt_succ_iff_lt_or_eq.1 hj with h | h
          · exact HK.out j l' h hl'
          · subst h
            rw [HLS.out] at hl'
            injection hl' with hl'
            rw [← hl']; exact HQ.out
        case measure => simp [intOf]; omega
    · have HOK := hide (show ls.all okH = true from by
        rw [List.all_eq_true]
        intro l hl
        obtain ⟨j, hj, he⟩ := List.getElem_of_mem hl
        exact HK.out j l (by have := HLN.out; omega) (by rw [List.getElem?_eq_getElem hj, he]))
      clear HK
      go_wp2_with fail
      have HB0' := hide (HB0.out.alloc (.cells Try.zeroCells69 69))
      have HBL' := hide (HBL.out.alloc HBL.out.size (.cells Try.zeroCells69 69))
      have HB1' : Hid (Blk (wr.alloc (.cells Try.zeroCells69 69)) wr.heap.size 69 (hc (mixL ls 0 0))) := hide (by rw [mixL_zero, ← hc_z65]; exact Blk.new _ _ _)
      have hg1 := HBL.out.size
      have hg0 := HB0.out.lt
      obtain ⟨g, hg⟩ : ∃ g, g = wr.heap.size := ⟨_, rfl⟩
      rw [← hg] at HB1' hg1 hg0 ⊢
      generalize wr.alloc (.cells Try.zeroCells69 69) = w2 at HB0' HBL' HB1' ⊢
      clear HB0 HBL hg
      go_loopw [3, 8, 9, 10, 24, 28, 29] (fun _ _ _ _ i _ _ wr => ∃ (k : Nat), k ≤ n ∧ i = .int .i64 k ∧ Hid (Blk wr w.heap.size 69 Try.zeroCells69) ∧ Hid (Below w.heap.size w wr) ∧ Hid (Blk wr g 69 (hc (mixL ls k 0))) ∧ Hid (∀ j : Nat, j < 65 → sumAt (ls.take k) j ≤ 9223372036854775807)) (fun _ _ _ _ i _ _ _ => n - (intOf i).toNat)
      case atStart => exact ⟨0, Nat.zero_le _, rfl, HB0', HBL', HB1', hide (fun j _ => by simp [sumAt])⟩
      case round =>
        clear HB0' HBL' HB1'
        obtain ⟨k, hk, rfl, HB0, HBL, HB1, HM⟩ := hrel
        by_cases hk1 : k < n
        · obtain ⟨ba, off, rfl, hbb, l, hls, hll, hrg⟩ := hr.row HL.out hk1
          have hrg2 : wr.rangeAt ba (off + k * 65) (hc l).toList := fun j v hv => (HBL.out.cell (p := ⟨ba, off + k * 65 + j, none⟩) hbb).trans (hrg j v hv)
          have HRG := hide hrg2
          clear hrg hrg2
          have HNW := hide (Blk.new wr 69 Try.zeroCells69)
          have hgl := HB1.out.lt
          have HBW := hide (below_setRow (B := w.heap.size) (HBL.out.alloc HBL.out.size (.cells Try.zeroCells69 69)) (g := wr.heap.size) HBL.out.size (hc l))
          have HBZ := hide ((HB0.out.alloc (.cells Try.zeroCells69 69)).setRow_far (g := wr.heap.size) (by have := HB0.out.lt; omega) (hc l))
          have HBS := hide ((HB1.out.alloc (.cells Try.zeroCells69 69)).setRow_far (g := wr.heap.size) (by omega) (hc l))
          have HLS := hide hls
          have HLL := hide hll
          clear hls
          go_wp2_with (first
            | refine wpList_load_mid rfl 69 (.tmp 26) rfl ba (off + k * 65) rfl (hc l).toList _ HRG.out Try.underlying69 rfl (by rw [Array.length_toList]; exact info69l HLL.out) ?_
            | refine wpList_store_blk rfl 69 (.tmp 8) (.tmp 27) rfl wr.heap.size rfl Try.zeroCells69 (hc l) rfl HNW.out (by rw [hc_size, HLL.out]; rfl) (info69l HLL.out) (hc_one l) ?_
            | refine wpList_load_blk rfl 69 (.tmp 8) rfl wr.heap.size rfl (hc l) _ (HNW.out.setRow _) Try.underlying69 rfl (info69l HLL.out) ?_)
          generalize (wr.alloc (.cells Try.zeroCells69 69)).setRow wr.heap.size (hc l) = w4 at HBW HBZ HBS ⊢
          clear HNW HRG HB0 HBL HB1 hgl
          have HLO := hide (show okH l = true from (List.all_eq_true.1 HOK.out) l (List.mem_of_getElem? HLS.out))
          go_loopw [3, 9, 10, 29] (fun _ _ _ i wr => ∃ (j : Nat), j ≤ 65 ∧ i = .int .i64 j ∧ Hid (Blk wr w.heap.size 69 Try.zeroCells69) ∧ Hid (Below w.heap.size w wr) ∧ Hid (Blk wr g 69 (hc (mixL ls k j))) ∧ Hid (∀ i : Nat, i < j → sumAt (ls.take (k + 1)) i ≤ 9223372036854775807)) (fun _ _ _ i _ => 65 - (intOf i).toNat)
          case atStart => exact ⟨0, by omega, rfl, HBZ, HBW, HBS, hide (fun i hi => by omega)⟩
          case round =>
            clear HBZ HBW HBS
            obtain ⟨j, hj, rfl, HB0, HBL, HB1, HJ⟩ := hrel
            by_cases hj1 : j < 65
            · obtain ⟨x, hx⟩ : ∃ x, l[j]? = some x := ⟨l[j]'(by have := HLL.out; omega), List.getElem?_eq_getElem _⟩
              have hix := fun w => index_h l j x w hj1 hx
              have hsn := sumAt_snoc HLS.out j
              rw [hx, Option.getD_some] at hsn
              have hx0 : 0 ≤ x := by have := okH_at HLO.out j; rw [hx] at this; exact this
              have hx1 : x ≤ 9223372036854775807 := (HX.out l (List.mem_of_getElem? HLS.out) x (List.mem_of_getElem? hx)).2
              have hy0 : 0 ≤ sumAt (ls.take k) j := sumAt_nonneg _ j (by
                have := HOK.out
                rw [List.all_eq_true] at this ⊢
                exact fun y hy => this y (List.mem_of_mem_take hy))
              have hy1 := HM.out j hj1
              have HSET := hide (mixL_set ls k j hj1)
              have c1 := HB1.out.cell j
              rw [hc_get, mixL_at ls k j hj1] at c1
              simp only [Option.map_some, i64v] at c1
              have f1 := HB1.out.frozen j
              have HTOT := hide (sumAt_take_le ls (k + 1) j HOK.out)
              clear hx
              have HSN := hide hsn
              clear hsn
              generalize sumAt (ls.take k) j = y at *
              by_cases hover : 9223372036854775807 - y < x
              · have hE12 : E = 12 := by
                  rw [HE.out, mergeE, if_neg (by rw [HOK.out]; simp), if_pos]
                  rw [List.any_eq_true]
                  exact ⟨j, List.mem_range.2 hj1, decide_eq_true (by have := HTOT.out; have := HSN.out; omega)⟩
                have hR0 : R = z65 := by
                  have := HR.out
                  rw [mergeR, ← HE.out, hE12, if_neg (by omega)] at this
                  exact this
                clear HE HR HSET HTOT HSN
                subst hE12
                subst hR0
                go_wp2_with (first
                  | refine wpList_store_blk rfl 69 (.tmp 2) (.tmp 39) rfl w.heap.size rfl Try.zeroCells69 Try.zeroCells69 rfl HB0.out rfl info69z zero_one ?_)
                exact bodyPost_ret_by (results_cell2 rfl _ w.heap.size rfl Try.zeroCells69 _ (HB0.out.setRow _) Try.underlying69 rfl info69z) rfl ⟨by rw [hc_z65]; rfl, below_setRow HBL.out (by omega) _⟩
              · go_wp2_with fail
                go_roundw
                case rel =>
                  refine ⟨j + 1, by omega, by go_num, hide (HB0.out.far (by simp; omega) _), hide (HBL.out.setCell (by simp; omega) _), hide ?_, hide (fun i hi => ?_)⟩
                  · have h := HB1.out.set_ j (.int .i64 (y + x))
                    rw [hc_set, ← HSN.out, HSET.out] at h
                    rw [← HSN.out]
                    exact h
                  · rcases Nat.lt_succ_iff_lt_or_eq.1 hi with h | h
                    · exact HJ.out i h
                    · subst h; rw [HSN.out]; omega
                case measure => simp [intOf]; omega
            · obtain rfl : j = 65 := by omega
              have HB1' := HB1.out
              rw [mixL_end] at HB1'
              have HB2 := hide HB1'
              clear HB1' HB1
              go_wp2_with fail
              go_roundw
              case rel => exact ⟨k + 1, by omega, by go_num, HB0, HBL, HB2, HJ⟩
              case measure => simp [intOf]; omega
        · have hkn : k = ls.length := by have := HLN.out; omega
          have HE0 : E = 0 := by
            rw [HE.out, mergeE, if_neg (by rw [HOK.out]; simp), if_neg]
            intro h
            rw [List.any_eq_true] at h
            obtain ⟨j, hj, hd⟩ := h
            have h1 := HM.out j (List.mem_range.1 hj)
            rw [hkn, List.take_length] at h1
            have h2 := of_decide_eq_true hd
            omega
          have hRR : R = mixL ls k 0 := by
            have := HR.out
            rw [mergeR, ← HE.out, HE0, if_pos rfl] at this
            rw [this, hkn, mixL_all]
          have HB1' := HB1.out
          rw [← hRR] at HB1'
          have HB2 := hide HB1'
          have HRL := hide (show R.length = 65 by rw [hRR, mixL_len])
          clear HB1' HB1 HE HR hRR
          subst HE0
          go_wp2_with (first
            | refine wpList_load_blk rfl 69 (.tmp 6) rfl g rfl (hc R) _ HB2.out Try.underlying69 rfl (info69l HRL.out) ?_
            | refine wpList_store_blk rfl 69 (.tmp 2) (.tmp 48) rfl w.heap.size rfl Try.zeroCells69 (hc R) rfl HB0.out (by rw [hc_size, HRL.out]; rfl) (info69l HRL.out) (hc_one R) ?_)
          exact bodyPost_ret_by (results_cell2 rfl _ w.heap.size rfl (hc R) _ (HB0.out.setRow _) Try.underlying69 rfl (info69l HRL.out)) rfl ⟨rfl, below_setRow HBL.out (by omega) _⟩
end Go.Proofs.Ytoammbfipinejaa
