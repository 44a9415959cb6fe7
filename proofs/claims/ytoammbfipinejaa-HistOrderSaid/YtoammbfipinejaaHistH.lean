/- alive of layer 5. -/
import Derived.Test.YtoammbfipinejaaHistG
import Derived.Test.YtoammbfipinejaaCodeF
import Derived.Test.YtoammbfipinejaaBlks
import Derived.Outline
import Derived.RangeFuncFrom
namespace Go.Proofs.Ytoammbfipinejaa
open Go.RowKit
attribute [local go_sem] Oper.semAt_some
set_option linter.unusedVariables false
set_option linter.unusedSimpArgs false
def hA : List Int := histL [0, 1, 1, 5]
theorem hA_eq : histL [0, 1, 1, 5] = hA := by rw [hA]
theorem gap4 : (if bIn 4 = true then gv (bLo 4) (bHi 4) else gv 0 0) = gv 4 7 := by kernel_rfl
theorem in4 : bIn 4 = true := by kernel_rfl
theorem gap65 : (if bIn 65 = true then gv (bLo 65) (bHi 65) else gv 0 0) = gv 0 0 := by kernel_rfl
theorem in65 : bIn 65 = false := by kernel_rfl
theorem hA_len : hA.length = 65 := by decide +kernel
theorem hA_at : hA[0]? = some 0 ∧ hA[1]? = some 1 ∧ hA[2]? = some 2 ∧ hA[4]? = some 1 := by decide +kernel
theorem hA_ok : ∀ x ∈ hA, -9223372036854775808 ≤ x ∧ x ≤ 9223372036854775807 := by decide +kernel
theorem hA_full : fullTo hA 65 = [(1, 1), (2, 2), (4, 1)] := by decide +kernel
theorem hA_sum : hA.sum = 4 := by decide +kernel
theorem hA_merge : mergeE [hA, hA] = 0 ∧ (mergeR [hA, hA])[2]? = some 4 ∧ (mergeR [hA, hA]).length = 65 := by decide +kernel
theorem hA_add : addE hA (-9) = 0 ∧ (addL hA (-9))[0]? = some 1 ∧ (addL hA (-9)).length = 65 := by decide +kernel
def hM : List Int := mergeR [hA, hA]
def hN : List Int := addL hA (-9)
theorem hN_len : hN.length = 65 := by decide +kernel
theorem hM_len : hM.length = 65 := by decide +kernel
theorem hA_flat : (flat [hA, hA]).toArray.size = 2 * 65 := by decide +kernel
def wsum (l : List (Nat × Int)) : Int := l.foldl (fun s x => wrap64 (s + wrap64 ((x.1 : Int) * x.2))) 0
theorem wsum_snoc (l : List (Nat × Int)) (x : Nat × Int) : wsum (l ++ [x]) = wrap64 (wsum l + wrap64 ((x.1 : Int) * x.2)) := by unfold wsum; rw [List.foldl_append]; rfl
theorem hA_rank : rankF hA 2 = some 2 := by decide +kernel
theorem b_62 : bkt 4611686018427387904 = 64 := by decide +kernel
theorem wpList_run_value {P : Program} {w w' : World} {ops : Array Oper} {rest : List Oper} {op : Oper} {a : Act} {Q : Exit → Act → World → Prop} (hgd : op.guard = none) (v : Value)
    (hrun : (execOp a.eval op).run P w = .ok (.value v) w') (h : wpList P ops Q rest (a.put op.dst v) w') : wpList P ops Q (op :: rest) a w :=
  wpList_plain hgd fun _ hK => by
    unfold Oper.wp
    rw [hrun]
    exact hK _ _ h
set_option maxRecDepth 100000 in
theorem build_hA (w : World) : (Instr.buildSlice 72 2 #[(0, .agg (hc hA)), (1, .agg (hc hA))]).run Try.prog w = .ok (.slice (some ⟨w.heap.size, 0, none⟩) 2 2) (w.alloc (.cells (flat [hA, hA]).toArray 69)) := by kernel_rfl
theorem execBuild (ρ : Operand → Value) (op : Oper) (t : TypeId) (n : Nat) (x y : Operand) (ho : op.op = .buildSlice t n #[(0, x), (1, y)]) (w w' : World) (v : Value)
    (h : (Instr.buildSlice t n #[(0, ρ x), (1, ρ y)]).run Try.prog w = .ok v w') : (execOp ρ op).run Try.prog w = .ok (.value v) w' := by
  unfold execOp
  simp only [ho]
  simp [Sem.run_bind, h, Result.andThen]
set_option maxHeartbeats 2000000 in
set_option maxRecDepth 100000 in
theorem alive5_any (w : World) : Calls Try.prog 37 #[] w fun e w' => e = .returned (.bool true) ∧ Below w.heap.size w w' := by
  refine (callsIn_wide (n := 3)).1 ?_
  refine callsIn_of_wp_marks Try.func37 rfl trivial ?_ rfl
  refine wpIn_wide.2 ?_
  simp only [Try.ntmps37, List.size_toArray, List.length_cons, List.length_nil, Nat.reduceAdd, Nat.reduceSub, Array.replicate_succ, Array.replicate_zero, List.push_toArray, List.append_toArray, List.nil_append, List.cons_append]
  go_wp2_with fail
  refine (of_any (some ⟨w.heap.size, 0, none⟩) 4 4 [0, 1, 1, 5] _ (Rd.litv w ([0, 1, 1, 5].map i64v) 2 4 rfl _ (by simp)) (by omega) (by simp)).mono ?_
  rintro e w1 ⟨rfl, hb1⟩
  rw [hA_eq]
  have B1 := hide (((Below.refl w.heap.size w).alloc (Nat.le_refl _) _).trans (hb1.mono (by simp)))
  clear hb1
  go_wp2_with (first | refine pause (.load 69 _) rfl ?_ | refine pause (.store 69 _ _) rfl ?_ | refine pause (.load 100 _) rfl ?_ | refine pause (.store 100 _ _) rfl ?_ | refine pause (.buildSlice _ _ _) rfl ?_)
  refine unpause ?_
  have K2 := hide ((((Blks.nil w1)).new 69 Try.zeroCells69).row 0 rfl (hc hA))
  have B2 := hide (below_setRow (B1.out.alloc B1.out.size (.cells Try.zeroCells69 69)) (g := w1.heap.size) B1.out.size (hc hA))
  have hgw1 : w.heap.size ≤ w1.heap.size := B1.out.size
  refine wpList_store_blk rfl 69 (.tmp 1) (.tmp 17) rfl w1.heap.size rfl Try.zeroCells69 (hc hA) rfl (Blk.new w1 _ _) (by rw [hc_size, hA_len]; rfl) (info69l hA_len) (hc_one hA) ?_
  generalize (w1.alloc (.cells Try.zeroCells69 69)).setRow w1.heap.size (hc hA) = w2 at *
  clear B1
  go_wp2_with fail
  refine (bounds_any 4 _ (by omega) (by omega)).mono ?_
  rintro e w3 ⟨rfl, hb3⟩
  rw [gap4, in4]
  have K3 := hide (K2.out.next hb3)
  have B3 := hide (B2.out.trans (hb3.mono B2.out.size))
  clear hb3 K2 B2 
  go_wp2_with (first | refine pause (.load 69 _) rfl ?_ | refine pause (.store 69 _ _) rfl ?_ | refine pause (.load 100 _) rfl ?_ | refine pause (.store 100 _ _) rfl ?_ | refine pause (.buildSlice _ _ _) rfl ?_)
  refine unpause ?_
  have K4 := hide (((K3.out).new 100 #[.int .i64 0, .int .i64 0]).row 0 rfl (gv 4 7))
  have B4 := hide (below_setRow (B3.out.alloc B3.out.size (.cells #[.int .i64 0, .int .i64 0] 100)) (g := w3.heap.size) B3.out.size (gv 4 7))
  have hgw3 : w.heap.size ≤ w3.heap.size := B3.out.size
  refine wpList_store_blk rfl 100 (.tmp 2) (.tmp 20) rfl w3.heap.size rfl #[.int .i64 0, .int .i64 0] (gv 4 7) rfl (Blk.new w3 _ _) rfl info100 (gv_one _ _) ?_
  generalize (w3.alloc (.cells #[.int .i64 0, .int .i64 0] 100)).setRow w3.heap.size (gv 4 7) = w4 at *
  clear K3 B3
  go_wp2_with fail
  refine (bounds_any 65 _ (by omega) (by omega)).mono ?_
  rintro e w5 ⟨rfl, hb5⟩
  rw [gap65, in65]
  have K5 := hide (K4.out.next hb5)
  have B5 := hide (B4.out.trans (hb5.mono B4.out.size))
  clear hb5 K4 B4 
  go_wp2_with (first | refine pause (.load 69 _) rfl ?_ | refine pause (.store 69 _ _) rfl ?_ | refine pause (.load 100 _) rfl ?_ | refine pause (.store 100 _ _) rfl ?_ | refine pause (.buildSlice _ _ _) rfl ?_)
  refine unpause ?_
  have K6 := hide (((K5.out).new 100 #[.int .i64 0, .int .i64 0]).row 0 rfl (gv 0 0))
  have B6 := hide (below_setRow (B5.out.alloc B5.out.size (.cells #[.int .i64 0, .int .i64 0] 100)) (g := w5.heap.size) B5.out.size (gv 0 0))
  have hgw5 : w.heap.size ≤ w5.heap.size := B5.out.size
  refine wpList_store_blk rfl 100 (.tmp 4) (.tmp 24) rfl w5.heap.size rfl #[.int .i64 0, .int .i64 0] (gv 0 0) rfl (Blk.new w5 _ _) rfl info100 (gv_one _ _) ?_
  generalize (w5.alloc (.cells #[.int .i64 0, .int .i64 0] 100)).setRow w5.heap.size (gv 0 0) = w6 at *
  clear K5 B5
  go_wp2_with (first | refine pause (.load 69 _) rfl ?_ | refine pause (.store 69 _ _) rfl ?_ | refine pause (.load 100 _) rfl ?_ | refine pause (.store 100 _ _) rfl ?_ | refine pause (.buildSlice _ _ _) rfl ?_)
  refine unpause ?_
  refine wpList_load_blk rfl 69 (.tmp 1) rfl w1.heap.size rfl (hc hA) _ (K6.out.get 2 rfl) Try.underlying69 rfl (info69l hA_len) ?_
  go_wp2_with (first | refine pause (.load 69 _) rfl ?_ | refine pause (.store 69 _ _) rfl ?_ | refine pause (.load 100 _) rfl ?_ | refine pause (.store 100 _ _) rfl ?_ | refine pause (.buildSlice _ _ _) rfl ?_)
  refine unpause ?_
  refine wpList_load_blk rfl 69 (.tmp 1) rfl w1.heap.size rfl (hc hA) _ (K6.out.get 2 rfl) Try.underlying69 rfl (info69l hA_len) ?_
  go_wp2_with (first | refine pause (.load 69 _) rfl ?_ | refine pause (.store 69 _ _) rfl ?_ | refine pause (.load 100 _) rfl ?_ | refine pause (.store 100 _ _) rfl ?_ | refine pause (.buildSlice _ _ _) rfl ?_)
  refine unpause ?_
  refine wpList_run_value rfl _ (execBuild _ _ 72 2 (.tmp 27) (.tmp 28) rfl _ _ _ (build_hA _)) ?_
  have K7 := hide (K6.out.alloc (.cells (flat [hA, hA]).toArray 69))
  have B7 := hide (B6.out.alloc B6.out.size (.cells (flat [hA, hA]).toArray 69))
  have R7 := hide (Rd.more (Rd.litm w6 (flat [hA, hA]).toArray 69 (0, 0) 2 65 hA_flat) (B' := (w6.alloc (.cells (flat [hA, hA]).toArray 69)).heap.size) (by simp))
  generalize (w6.alloc (.cells (flat [hA, hA]).toArray 69)) = w7 at *
  clear K6 B6
  go_wp2_with fail
  refine (merge_any _ 2 2 [hA, hA] _ R7.out (by omega) (by simpa using hA_len) (by simpa using hA_ok)).mono ?_
  rintro e w8 ⟨rfl, hb8⟩
  have K8 := hide (K7.out.next hb8)
  have B8 := hide (B7.out.trans (hb8.mono B7.out.size))
  clear hb8 K7 B7 R7
  have HM := hide (show hc (mergeR [hA, hA]) = hc hM from rfl)
  rw [HM.out, hA_merge.1]
  go_wp2_with (first | refine pause (.load 69 _) rfl ?_ | refine pause (.store 69 _ _) rfl ?_ | refine pause (.load 100 _) rfl ?_ | refine pause (.store 100 _ _) rfl ?_ | refine pause (.buildSlice _ _ _) rfl ?_)
  refine unpause ?_
  have K9 := hide (((K8.out).new 69 Try.zeroCells69).row 0 rfl (hc hM))
  have B9 := hide (below_setRow (B8.out.alloc B8.out.size (.cells Try.zeroCells69 69)) (g := w8.heap.size) B8.out.size (hc hM))
  have hgw8 : w.heap.size ≤ w8.heap.size := B8.out.size
  refine wpList_store_blk rfl 69 (.tmp 6) (.tmp 31) rfl w8.heap.size rfl Try.zeroCells69 (hc hM) rfl (Blk.new w8 _ _) (by rw [hc_size, hM_len]; rfl) (info69l hM_len) (hc_one hM) ?_
  generalize (w8.alloc (.cells Try.zeroCells69 69)).setRow w8.heap.size (hc hM) = w9 at *
  clear K8 B8 HM
  go_wp2_with (first | refine pause (.load 69 _) rfl ?_ | refine pause (.store 69 _ _) rfl ?_ | refine pause (.load 100 _) rfl ?_ | refine pause (.store 100 _ _) rfl ?_ | refine pause (.buildSlice _ _ _) rfl ?_)
  refine unpause ?_
  refine wpList_load_blk rfl 69 (.tmp 1) rfl w1.heap.size rfl (hc hA) _ (K9.out.get 3 rfl) Try.underlying69 rfl (info69l hA_len) ?_
  go_wp2_with fail
  refine (add_any hA (-9) _ hA_len (by omega) (by omega) (fun x hx => (hA_ok x hx).2)).mono ?_
  rintro e w10 ⟨rfl, hb10⟩
  have K10 := hide (K9.out.next hb10)
  have B10 := hide (B9.out.trans (hb10.mono B9.out.size))
  clear hb10 K9 B9 
  have HM := hide (show hc (addL hA (-9)) = hc hN from rfl)
  rw [HM.out, hA_add.1]
  go_wp2_with (first | refine pause (.load 69 _) rfl ?_ | refine pause (.store 69 _ _) rfl ?_ | refine pause (.load 100 _) rfl ?_ | refine pause (.store 100 _ _) rfl ?_ | refine pause (.buildSlice _ _ _) rfl ?_)
  refine unpause ?_
  have K11 := hide (((K10.out).new 69 Try.zeroCells69).row 0 rfl (hc hN))
  have B11 := hide (below_setRow (B10.out.alloc B10.out.size (.cells Try.zeroCells69 69)) (g := w10.heap.size) B10.out.size (hc hN))
  have hgw10 : w.heap.size ≤ w10.heap.size := B10.out.size
  refine wpList_store_blk rfl 69 (.tmp 8) (.tmp 36) rfl w10.heap.size rfl Try.zeroCells69 (hc hN) rfl (Blk.new w10 _ _) (by rw [hc_size, hN_len]; rfl) (info69l hN_len) (hc_one hN) ?_
  generalize (w10.alloc (.cells Try.zeroCells69 69)).setRow w10.heap.size (hc hN) = w11 at *
  clear K10 B10 HM
  go_wp2_with (first | refine pause (.load 69 _) rfl ?_ | refine pause (.store 69 _ _) rfl ?_ | refine pause (.load 100 _) rfl ?_ | refine pause (.store 100 _ _) rfl ?_ | refine pause (.buildSlice _ _ _) rfl ?_)
  have hu := Try.underlying69
  have hi : (Try.prog.info? 69).map (·.size) = some (hA.map i64v).length := by rw [info69, List.length_map, hA_len]
  have rA : w11.drew.rangeAt w1.heap.size 0 (hA.map i64v) := (K11.out.get 4 rfl).range _ rfl
  go_region_held3 (fun w' => w'.rangeAt w1.heap.size 0 (hA.map i64v)) (first | assumption | go_keep)
    (first
      | (go_at_call 51; refine (wideOf_any 2 _ (by omega) (by omega)).mono ?_; rintro e w12 ⟨rfl, hb12'⟩; have hb12 : Below w11.heap.size w11 w12 := ⟨hb12'.os, hb12'.tape, hb12'.output, hb12'.size, hb12'.block⟩; have rA := ((K11.out.next hb12).get 4 rfl).range (hA.map i64v) rfl)
      | (go_at_call 48; refine (rank_any hA 2 _ hA_len hA_ok).mono ?_; rintro e w13 ⟨rfl, hb13'⟩; have hb13 : Below w12.heap.size w12 w13 := ⟨hb13'.os, hb13'.tape, hb13'.output, hb13'.size, hb13'.block⟩; have rA := (((K11.out.next hb12).next hb13).get 4 rfl).range (hA.map i64v) rfl))
  have B13 := hide ((B11.out.trans (hb12.mono B11.out.size)).trans (hb13.mono (by have := B11.out.size; have := hb12.size; omega)))
  have K13 := hide ((K11.out.next hb12).next hb13)
  rw [hA_rank]
  simp only [Option.getD_some, Option.isSome_some]
  clear hb12' hb13' hb12 hb13 K11 B11 hu hi
  go_wp2_with (first | refine pause (.load 69 _) rfl ?_ | refine pause (.store 69 _ _) rfl ?_ | refine pause (.load 100 _) rfl ?_ | refine pause (.store 100 _ _) rfl ?_ | refine pause (.buildSlice _ _ _) rfl ?_)
  refine unpause ?_
  refine wpList_load_blk rfl 69 (.tmp 1) rfl w1.heap.size rfl (hc hA) _ ((K13.out.alloc _).get 4 rfl) Try.underlying69 rfl (info69l hA_len) ?_
  go_wp2_with fail
  refine (full_any hA _).mono ?_
  rintro e w14 ⟨rfl, rfl⟩
  have hfn : ∀ (f : Fn) (a b : Array Value) (w : World), (binOp .eql 93 (.func f a b) .nilFunc).run Try.prog w = .ok (.bool false) w := fun _ _ _ _ => by kernel_rfl
  go_wp2_with fail
  refine (wpIn_wide (n := 3)).1 ?_
  have hn := (Blk.new w13 3 #[.int .i64 0]).alloc (.cells (hc hA) 69)
  have hsz : ((w13.alloc (.cells #[.int .i64 0] 3)).alloc (.cells (hc hA) 69)).heap.size = w13.heap.size + 2 := by simp
  have hFb : Blk ((w13.alloc (.cells #[.int .i64 0] 3)).alloc (.cells (hc hA) 69)) (w13.heap.size + 1) 69 (hc hA) := by
    have h := Blk.new (w13.alloc (.cells #[.int .i64 0] 3)) 69 (hc hA)
    rw [World.size_alloc] at h
    exact h
  have hb14 : Below w13.heap.size w13 ((w13.alloc (.cells #[.int .i64 0] 3)).alloc (.cells (hc hA) 69)) := ((Below.refl _ _).alloc (Nat.le_refl _) _).alloc (by simp) _
  have hc14 : ((w13.alloc (.cells #[.int .i64 0] 3)).alloc (.cells (hc hA) 69)).cell? ⟨w13.heap.size, 0, none⟩ = some (.int .i64 0) := by rw [hn.cell 0]; rfl
  have hf14 : ((w13.alloc (.cells #[.int .i64 0] 3)).alloc (.cells (hc hA) 69)).frozen? ⟨w13.heap.size, 0, none⟩ = false := hn.frozen 0
  clear hn
  generalize (w13.alloc (.cells #[.int .i64 0] 3)).alloc (.cells (hc hA) 69) = w14 at *
  refine wpIn_rangeFunc_ownF (F := Fence.wide) (n := 3) rfl (by omega) (gf := 89) (lb := #[.pointer (some ⟨w13.heap.size + 1, 0, none⟩)]) rfl trivial (enters_of Try.func89 (by kernel_rfl) rfl)
    (fullIt Fence.wide 2 trivial rfl (by omega) (w13.heap.size + 1) hA w14 hA_len hFb) walksK_t walksK_b (Below.refl _ _) (fun _ => rfl)
    (fun pre W => (W.cell? ⟨w13.heap.size, 0, none⟩ = some (.int .i64 (wsum pre)) ∧ W.frozen? ⟨w13.heap.size, 0, none⟩ = false) ∧ Below w13.heap.size w13 W)
    (fun _ _ _ => False)
    (OwnFrom.and (Own.from (fun s A B row hs hg hr => ⟨cell_kept hs.1 hg hr, (frozen_kept hs.1 hg hr).trans hs.2⟩) _) (ownFrom_below (Nat.le_refl _) (by omega)))
    (fun _ _ _ _ _ hs _ _ => hs)
    ⟨⟨hc14, hf14⟩, hb14⟩ ?a1 ?assign ?body ?done ?stop
  case assign =>
    intro l x W K hK
    simp only [encP, List.zip_toArray, List.zip_cons_cons, List.zip_nil_right, List.foldl_toArray, List.foldl_cons, List.foldl_nil, List.setIfInBounds_toArray, List.set_cons_succ, List.set_cons_zero]
    gi_wp2
    exact hK
  case stop =>
    rintro D c pre W _ _ h _
    exact h.elim
  case body =>
    rintro l pre x W ⟨⟨hcl, hfr⟩, hB⟩ _
    gi_wp2
    exact ⟨KeepsOthers.setCell _ _ _, (KeepsOthers.setCell _ _ _).walks, ⟨by rw [wsum_snoc]; exact World.cell?_setCell_same' _ _ _ (by rw [hcl]; rfl), by rw [World.frozen?_setCell]; exact hfr⟩, hB.setCell (p := ⟨w13.heap.size, 0, none⟩) (Nat.le_refl _) _⟩
  case done =>
    rintro D ys W hD hys ⟨⟨hcl, hfr⟩, hB⟩ hK
    subst hys
    rw [hA_full] at hcl
    have hw9 : wsum [(1, 1), (2, 2), (4, 1)] = 9 := by decide +kernel
    rw [hw9] at hcl
    have KW := hide (K13.out.next hB)
    have BW := hide (B13.out.trans (hB.mono B13.out.size))
    have hDw : w.heap.size ≤ D := by have := B13.out.size; omega
    clear hw9 hsz hFb hb14 hc14 hf14 hD hB K13 B13
    have g4 := KW.out.get 4 rfl
    have d0 := g4.num hA_at.1
    have d1 := g4.num hA_at.2.1
    have d2 := g4.num hA_at.2.2.1
    have d4 := g4.num hA_at.2.2.2
    have g3 := KW.out.get 3 rfl
    have e0 := g3.cell 0
    have e1 := g3.cell 1
    simp only [gv, List.getElem?_toArray, List.getElem?_cons_zero, List.getElem?_cons_succ] at e0 e1
    have dm := (KW.out.get 1 rfl).num (l := hM) hA_merge.2.1
    have dn := (KW.out.get 0 rfl).num (l := hN) hA_add.2.1
    clear g3 g4
    go_wp2_with (refine pause (.load 69 _) rfl ?_)
    refine unpause ?_
    refine wpList_load_blk_g rfl 69 (.tmp 1) rfl w1.heap.size rfl (hc hA) _ (KW.out.get 4 rfl) Try.underlying69 rfl (info69l hA_len) ?_
    clear d0 d1 d2 d4 e0 e1 dm dn hcl hfr
    go_wp2_with fail
    refine (total_any hA _ hA_len hA_ok).mono ?_
    rintro e W1 ⟨rfl, hW1⟩
    have hK1 : W1.heap[D]? = some (Obj.deferred (some [])) := (hW1.block D (Array.getElem?_eq_some_iff.1 hK).1).trans hK
    have BW1 := hide (BW.out.trans (hW1.mono BW.out.size))
    rw [hA_sum]
    clear hW1 BW KW
    go_wp2_with fail
    refine (wideOf_any 4 _ (by omega) (by omega)).mono ?_
    rintro e W2 ⟨rfl, hW2⟩
    have hK2 : W2.heap[D]? = some (Obj.deferred (some [])) := (hW2.block D (Array.getElem?_eq_some_iff.1 hK1).1).trans hK1
    have BW2 := hide (BW1.out.trans (hW2.mono BW1.out.size))
    have heq : ∀ w, (binOp .eql 81 (.agg (wv 4)) (.agg (wv 4))).run Try.prog w = .ok (.bool true) w := fun w => by kernel_rfl
    clear hW2 BW1
    go_wp2_with fail
    refine (bucket_any 4611686018427387904 _ (by omega) (by omega)).mono ?_
    rintro e w' ⟨rfl, rfl⟩
    rw [b_62]
    go_wp2_with fail
    refine ⟨by simp, .inl ⟨_, _, rfl, run_takeDeferred hK2, ?_⟩⟩
    exact ⟨_, results_tmp rfl _ _ _, rfl, BW2.out.trans (belowK_b (w := w) (Nat.le_refl _) W2 D _ _ hDw hK2 rfl rfl)⟩
end Go.Proofs.Ytoammbfipinejaa
