/- HistParts. -/
import Derived.Test.YtoammbfipinejaaHistJ
import Derived.Deep.CutRange
import Derived.Outline
import Derived.Deep.DeepMust
import Derived.Great.BuildSlice
import Derived.Great.FillDense
import Derived.Test.YtoammbfipinejaaFlow
namespace Go.Proofs.Ytoammbfipinejaa
open Go.ChangeShapes Go.WideShapes Go.ChangeAt Go.RowKit
set_option linter.unusedVariables false
set_option linter.unusedSimpArgs false
theorem there_new (W : World) (cs : Array Value) (t : TypeId) (n : Nat) (hn : n ≤ cs.size) : (W.alloc (.cells cs t)).there W.heap.size 0 n := fun j hj => by
  have h := Blk.new W t cs
  rw [Nat.zero_add, h.cell j, h.frozen j, Array.getElem?_eq_getElem (by omega)]
  exact ⟨rfl, rfl⟩
theorem there_next {W W' : World} {b n : Nat} (h : W.there b 0 n) (hb : Below W.heap.size W W') : W'.there b 0 n := fun j hj => by
  have h1 := (h j hj).1
  obtain ⟨u, hu⟩ := Option.isSome_iff_exists.1 h1
  have hlt := World.block_lt_of_cell? W _ hu
  rw [hb.cell (p := ⟨b, 0 + j, none⟩) hlt, hb.frozen (p := ⟨b, 0 + j, none⟩) hlt]
  exact h j hj
theorem there_zero (W : World) (xs : List Int) : (W.alloc (.cells Try.zeroCells69 69)).there W.heap.size 0 ((histL xs).map i64v).length :=
  there_new W _ _ _ (by rw [List.length_map, histL_len, hc_z65, hc_size]; exact Nat.le_refl _)
theorem below_on {w1 W w3 : World} (h : Below w1.heap.size w1 W) (b : Below W.heap.size W w3) : Below w1.heap.size w1 w3 := h.trans (b.mono h.size)
theorem rd_on {w1 W : World} {s n : Nat} {A : Option Addr} {xs : List Value} (hr : Rd w1 w1.heap.size s A n xs) (h : Below w1.heap.size w1 W) : Rd W W.heap.size s A n xs := (hr.below h).more h.size
theorem rd_flat (W : World) (a b : List Int) : Rd (W.alloc (.cells (flat [histL a, histL b]).toArray 69)) (W.alloc (.cells (flat [histL a, histL b]).toArray 69)).heap.size 65 (some ⟨W.heap.size, 0, none⟩) 2 (flat [histL a, histL b]) :=
  Rd.more (Rd.litm W (flat [histL a, histL b]).toArray 69 (0, 0) 2 65 (by rw [List.size_toArray, flat_len _ (by simp [histL_len])]; rfl)) (by simp)
/-! ### a slice of two histograms, built -/
set_option maxRecDepth 100000 in
theorem run_buildH (ls : List (List Int)) (hl : ∀ l ∈ ls, l.length = 65) (h0 : 0 < ls.length) (h1 : ls.length ≤ 1000) (w : World) :
    (Instr.buildSlice 72 ls.length ((ls.map fun l => Value.agg (hc l)).zipIdx.map fun x => (x.2, x.1)).toArray).run Try.prog w = .ok (.slice (some ⟨w.heap.size, 0, none⟩) ls.length ls.length) (w.alloc (.cells (flat ls).toArray 69)) := by
  have hi := info69
  have hz : ((Try.prog.info? 69).bind (·.zero)).isSome = true := by kernel_rfl
  cases hie : Try.prog.info? 69 with
  | none => simp [hie] at hi
  | some ie =>
    simp only [hie, Option.map_some, Option.some.injEq, Option.bind_some] at hi hz
    obtain ⟨z, hzz⟩ := Option.isSome_iff_exists.1 hz
    refine run_buildSlice w _ 69 ls.length _ _ ie z Try.underlying72 hie hzz (by rw [hi]; omega) (by rw [hi]; omega) ?_
    have h := Great.fill_whole (s := 65) (by omega) (ls.map fun l => Value.agg (hc l)) ((Array.range (ls.length * ie.size)).map (z.cells[· % z.cells.size]!)) (fun v hv => by
      obtain ⟨l, h, rfl⟩ := List.mem_map.1 hv
      show (hc l).size = 65
      rw [hc_size, hl l h]) (by simp [hi])
    rw [hi] at h ⊢
    rw [List.toList_toArray, h]
    congr 2
    unfold flat
    rw [List.flatMap_map]
    rw [← List.flatMap_def]
    rfl
theorem take_snoc_get {α : Type} {l : List α} {k : Nat} {x : α} (h : l[k]? = some x) : l.take (k + 1) = l.take k ++ [x] := by rw [List.take_add_one, h]; rfl
theorem slice_hi (A : Option Addr) (n c k : Nat) (w : World) (h : k ≤ c) : (Instr.sliceAt 44 (.slice A n c) none (some (.int .i64 (k : Int))) none).run Try.prog w = .ok (.slice A k c) w := by
  have hs1 : (0 : Int) ≤ (k : Int) := by omega
  have hs3 : (k : Int) ≤ (c : Int) := by omega
  go_simp
theorem slice_lo (A : Option Addr) (n c k : Nat) (w : World) (h : k ≤ n) (h2 : n ≤ c) : (Instr.sliceAt 44 (.slice A n c) (some (.int .i64 (k : Int))) none none).run Try.prog w = .ok (.slice (if c = k then A else A.map (·.add k)) (n - k) (c - k)) w := by
  have hs1 : (0 : Int) ≤ (k : Int) := by omega
  have hs2 : (k : Int) ≤ (n : Int) := by omega
  have hs3 : (k : Int) ≤ (c : Int) := by omega
  have hs4 : (n : Int) ≤ (c : Int) := by omega
  go_simp
theorem alloc_hist (w : World) : (Instr.alloc 69 true (.tuple #[])).run Try.prog w = .ok (.pointer (some ⟨w.heap.size, 0, none⟩)) (w.alloc (.cells (hc z65) 69)) := by
  rw [← hc_z65]
  go_simp
theorem at_i64 (b off n c k : Nat) (w : World) (h : k < n) (h2 : n ≤ 140737488351232) : (Instr.indexAt 44 (.slice (some ⟨b, off, none⟩) n c) (.int .i64 (k : Int))).run Try.prog w = .ok (.pointer (some ⟨b, off + k, none⟩)) w := by
  have hs1 : (0 : Int) ≤ (k : Int) := by omega
  have hs2 : (k : Int) < (n : Int) := by omega
  go_simp
theorem ld_i64 (a : Addr) (v : Value) (w : World) (h : w.cell? a = some v) : (Instr.loadAt 2 (.pointer (some a))).run Try.prog w = .ok v w := by
  go_simp
theorem eql_ok (w : World) : (binOp .eql 25 (.int .i64 0) (.int .i64 0)).run Try.prog w = .ok (.bool true) w := by kernel_rfl
theorem eql_wv (S : Int) (w : World) : (binOp .eql 81 (.agg (wv S)) (.agg (wv S))).run Try.prog w = .ok (.bool true) w := by
  unfold wv
  go_simp
theorem guard_h (a b : Operand) (x y : Array Value) (w : World) : (eqGuard .eql 69 a b (.agg x) (.agg y)).run Try.prog w = .ok () w := run_eqGuard_agg w _ _ _ _ _ _ (by kernel_rfl)
theorem guard_w (a b : Operand) (x y : Array Value) (w : World) : (eqGuard .eql 81 a b (.agg x) (.agg y)).run Try.prog w = .ok () w := run_eqGuard_agg w _ _ _ _ _ _ (by kernel_rfl)
theorem eql_hh (xs : List Int) (w : World) : (binOp .eql 69 (.agg (hc (histL xs))) (.agg (hc (histL xs)))).run Try.prog w = .ok (.bool true) w := by rw [eql_h _ _ (histL_len _) (histL_len _)]; simp
theorem eql_wv2 {S T : Int} (h : S = T) (w : World) : (binOp .eql 81 (.agg (wv S)) (.agg (wv T))).run Try.prog w = .ok (.bool true) w := by subst h; exact eql_wv S w
def buildH2 (a b : List Int) : Sem Value := Instr.buildSlice 72 2 #[(0, .agg (hc a)), (1, .agg (hc b))]
theorem run_buildH2 (a b : List Int) (w : World) : (buildH2 (histL a) (histL b)).run Try.prog w = .ok (.slice (some ⟨w.heap.size, 0, none⟩) 2 2) (w.alloc (.cells (flat [histL a, histL b]).toArray 69)) :=
  run_buildH [histL a, histL b] (by simp [histL_len]) (by simp) (by simp) w
theorem build_fold (a b : List Int) : Instr.buildSlice 72 2 #[(0, .agg (hc (histL a))), (1, .agg (hc (histL b)))] = buildH2 (histL a) (histL b) := rfl
set_option maxHeartbeats 2000000 in
set_option maxRecDepth 100000 in
theorem parts_yes (A : Option Addr) (n c k : Nat) (xs : List Int) (w : World) (hr : Rd w w.heap.size 1 A n (xs.map i64v)) (hn : n ≤ 200) (hnc : n ≤ c) (hcap : c ≤ 140737488351232) (hk : k ≤ n) (hx : inL xs) :
    Calls Try.prog 10 #[.slice A n c, .int .i64 k] w fun e w' => e = .returned (.bool true) ∧ Below w.heap.size w w' := by
  have HN := hide hr.len
  have HX := hide hx
  have hk0 : decide ((k : Int) < 0) = false := decide_eq_false (by omega)
  have hk1 : decide ((n : Int) < (k : Int)) = false := decide_eq_false (by omega)
  have hk2 : decide (n < k) = false := decide_eq_false (by omega)
  have hn0 : decide ((200 : Int) < (n : Int)) = false := decide_eq_false (by omega)
  clear hx
  go_enter Try.func10, Try.ntmps10
  go_wp2_with fail
  refine (alive5_any _).mono ?_
  rintro e w1 ⟨rfl, b1⟩
  have B1 := hide b1
  have R1 := hide (hr.next b1)
  clear b1 hr
  go_upto_region 5 with (fail)
  go_cut [5, 6] from 11 (fun p e wc => ∃ b, p = .pointer (some ⟨b, 0, none⟩) ∧ e = .int .i64 0 ∧ Blk wc b 69 (hc (histL xs)) ∧ Below w1.heap.size w1 wc)
  case first =>
    have HM := hide (merge_hists (xs.take k) (xs.drop k) (by rw [List.length_take, List.length_drop, HN.out]; omega))
    rw [List.take_append_drop] at HM
    have RT := hide (R1.out.take (k := k) hk)
    have RD := hide (R1.out.cut (k := k) (cap := c) hk hnc)
    rw [Nat.mul_one, ← List.map_take] at RT
    rw [Nat.mul_one, ← List.map_drop] at RD
    have SL := hide (fun W => slice_lo A n c k W hk hnc)
    generalize (if c = k then A else A.map (·.add k)) = D at RD SL
    have hbd : ∀ l ∈ [histL (xs.take k), histL (xs.drop k)], ∀ x ∈ l, -9223372036854775808 ≤ x ∧ x ≤ 9223372036854775807 := by
      intro l hl x hx
      have hlen := HN.out
      simp only [List.mem_cons, List.not_mem_nil, or_false] at hl
      rcases hl with rfl | rfl
      · have := histL_mem _ x hx; rw [List.length_take] at this; omega
      · have := histL_mem _ x hx; rw [List.length_drop] at this; omega
    refine region_flow (by kernel_rfl) (by kernel_rfl) (Γ := Nat × Nat) (fun γ => [.slice A n c, .int .i64 k, .slice A k c, .agg (hc (histL (xs.take k))), .slice A n c, .int .i64 k, .slice D (n - k) (c - k), .agg (hc (histL (xs.drop k))), .slice (some ⟨γ.2, 0, none⟩) 2 2, .tuple #[.agg (hc (histL xs)), .int .i64 0], .tuple #[.agg (hc (histL xs)), .int .i64 0], .agg (hc (histL xs)), .int .i64 0, .pointer (some ⟨γ.1, 0, none⟩), undef, .int .i64 0])
      (fun l γ W => Below w1.heap.size w1 W ∧ (l 8 = true → l 9 = false → Rd W W.heap.size 65 (some ⟨γ.2, 0, none⟩) 2 (flat [histL (xs.take k), histL (xs.drop k)])) ∧ (l 13 = true → w1.heap.size ≤ γ.1 ∧ Blk W γ.1 69 (if l 14 = true then hc (histL xs) else hc z65)))
      (fun _ => rfl) (0, 0) ⟨(Below.refl _ _).drew, (fun h _ => nomatch h), (fun h => nomatch h)⟩ ?step ?fin
    case step =>
      refine ⟨?_, ?_, ?_, ?_, ?_, ?_, ?_, ?_, ?_, ?_, ?_, ?_, ?_, ?_, ?_, ?_, trivial⟩
      · intro l γ W hG hl hw hcl; exact stepV_value rfl _ rfl (.inr rfl) hG
      · intro l γ W hG hl hw hcl; exact stepV_value rfl _ rfl (.inr rfl) hG
      · intro l γ W hG hl hw hcl; exact stepV_value rfl _ (exec_slice _ _ _ _ _ rfl A n c rfl (slice_hi A n c k W (by omega))) (.inr rfl) hG
      · intro l γ W hG hl hw hcl
        refine stepV_call rfl 38 _ (exec_call _ _ _ rfl rfl (enters_of Try.func38 (by kernel_rfl) rfl) [.slice A k c] rfl) ?_
        refine (of_any A k c (xs.take k) _ (rd_on RT.out hG.1) (by omega) (fun x h => HX.out x (List.mem_of_mem_take h))).mono ?_
        rintro e w' ⟨rfl, hb⟩
        exact ⟨_, γ, rfl, SameV.refl _ _ _, .inr rfl, below_on hG.1 hb, fun h h' => (hG.2.1 h h').next hb, fun h => ⟨(hG.2.2 h).1, (hG.2.2 h).2.next hb⟩⟩
      · intro l γ W hG hl hw hcl; exact stepV_value rfl _ rfl (.inr rfl) hG
      · intro l γ W hG hl hw hcl; exact stepV_value rfl _ rfl (.inr rfl) hG
      · intro l γ W hG hl hw hcl; exact stepV_value rfl _ (exec_slice _ _ _ _ _ rfl A n c rfl (SL.out W)) (.inr rfl) hG
      · intro l γ W hG hl hw hcl
        refine stepV_call rfl 38 _ (exec_call _ _ _ rfl rfl (enters_of Try.func38 (by kernel_rfl) rfl) [.slice _ (n - k) (c - k)] rfl) ?_
        refine (of_any _ _ _ (xs.drop k) _ (rd_on RD.out hG.1) (by omega) (fun x h => HX.out x (List.mem_of_mem_drop h))).mono ?_
        rintro e w' ⟨rfl, hb⟩
        exact ⟨_, γ, rfl, SameV.refl _ _ _, .inr rfl, below_on hG.1 hb, fun h h' => (hG.2.1 h h').next hb, fun h => ⟨(hG.2.2 h).1, (hG.2.2 h).2.next hb⟩⟩
      · intro l γ W hG hl hw hcl
        refine stepV_run rfl _ _ (γ.1, W.heap.size) (exec_buildSlice _ _ _ rfl [(0, .agg (hc (histL (xs.take k)))), (1, .agg (hc (histL (xs.drop k))))] rfl (run_buildH2 (xs.take k) (xs.drop k) W)) (SameV.set (.slice (some ⟨W.heap.size, 0, none⟩) 2 2) hl rfl) (.inr rfl) ?_
        exact ⟨hG.1.alloc hG.1.size _, fun _ _ => rd_flat W (xs.take k) (xs.drop k), fun h => ⟨(hG.2.2 h).1, (hG.2.2 h).2.alloc _⟩⟩
      · intro l γ W hG hl hw hcl
        have h8 : l 8 = true := hw ⟨8, .data⟩ (by simp) rfl
        refine stepV_call rfl 40 _ (exec_call _ _ _ rfl rfl (enters_of Try.func40 (by kernel_rfl) rfl) [.slice (some ⟨γ.2, 0, none⟩) 2 2] rfl) ?_
        refine (merge_any (some ⟨γ.2, 0, none⟩) 2 2 [histL (xs.take k), histL (xs.drop k)] _ (hG.2.1 h8 hl) (by omega) (by simp [histL_len]) hbd).mono ?_
        rintro e w' ⟨rfl, hb⟩
        rw [HM.out.1, HM.out.2]
        exact ⟨_, γ, rfl, SameV.refl _ _ _, .inr rfl, below_on hG.1 hb, (fun _ h' => nomatch h'), fun h => ⟨(hG.2.2 h).1, (hG.2.2 h).2.next hb⟩⟩
      · intro l γ W hG hl hw hcl; exact stepV_value rfl _ rfl (.inr rfl) hG
      · intro l γ W hG hl hw hcl; exact stepV_value rfl _ (exec_extract _ _ rfl _ rfl rfl) (.inr rfl) hG
      · intro l γ W hG hl hw hcl; exact stepV_value rfl _ (exec_extract _ _ rfl _ rfl rfl) (.inr rfl) hG
      · intro l γ W hG hl hw hcl
        refine stepV_run rfl _ _ (W.heap.size, γ.2) (exec_alloc _ rfl (alloc_hist W)) (SameV.set (.pointer (some ⟨W.heap.size, 0, none⟩)) hl rfl) (.inr rfl) ?_
        have h14 : l 14 = false := by
          cases h : l 14 with
          | false => rfl
          | true => exact absurd (hcl 14 _ rfl h ⟨13, .data⟩ (by simp) rfl) (by rw [hl]; simp)
        exact ⟨hG.1.alloc hG.1.size _, (fun h h' => (hG.2.1 h h').alloc' _), fun _ => ⟨hG.1.size, by rw [show updL l 13 14 = l 14 from rfl, h14]; exact Blk.new _ _ _⟩⟩
      · intro l γ W hG hl hw hcl
        have h13 : l 13 = true := hw ⟨13, .data⟩ (by simp) rfl
        have h9 : l 9 = true := hcl 10 _ rfl (hcl 11 _ rfl (hw ⟨11, .data⟩ (by simp) rfl) ⟨10, .data⟩ (by simp) rfl) ⟨9, .data⟩ (by simp) rfl
        have hB := hG.2.2 h13
        rw [show l 14 = false from hl, if_neg (by simp)] at hB
        refine stepV_skip rfl _ rfl (exec_store_blk 69 _ _ rfl γ.1 rfl (hc z65) (hc (histL xs)) rfl hB.2 (by rw [hc_size, hc_size, histL_len]; rfl) (info69l (histL_len xs)) (hc_one _)) ?_
        exact ⟨below_setRow hG.1 hB.1 _, (fun _ h' => by rw [show updL l 14 9 = l 9 from rfl, h9] at h'; cases h'), fun _ => ⟨hB.1, hB.2.setRow _⟩⟩
      · intro l γ W hG hl hw hcl; exact stepV_value rfl _ rfl (.inr rfl) hG
    case fin =>
      intro l γ W hall hG
      have hB := hG.2.2 (hall 13 (by simp))
      rw [hall 14 (by simp), if_pos rfl] at hB
      simp only [putAll, Act.put, List.setIfInBounds_toArray, List.set_cons_succ, List.set_cons_zero]
      go_wp2_with fail
      go_meet
      case rel => exact ⟨γ.1, rfl, rfl, hB.2, hG.1⟩
  case rest =>
    obtain ⟨b5, rfl, rfl, k5, b5'⟩ := hcut
    have K5 := hide k5
    have B5 := hide (B1.out.trans (b5'.mono B1.out.size))
    have R5 := hide (rd_on R1.out b5')
    have hb5 := k5.lt
    clear k5 b5' R1 B1
    go_wp2_with (first | refine pause (.load 69 _) rfl ?_ | refine pause (.store 69 _ _) rfl ?_)
    refine unpause ?_
    have hz0 : Try.zeroCells69 = hc (histL (xs.take 0)) := hc_z65
    rw [hz0]
    have K6 := hide (show Blks ((wc.alloc (.cells (hc (histL (xs.take 0))) 69)).setRow wc.heap.size (hc (histL (xs.take 0)))) [(wc.heap.size, 69, hc (histL (xs.take 0))), (b5, 69, hc (histL xs))] from
      ((Blks.one K5.out).new 69 (hc (histL (xs.take 0)))).row 0 rfl (hc (histL (xs.take 0))))
    have B6 := hide (below_setRow (B5.out.alloc B5.out.size (.cells (hc (histL (xs.take 0))) 69)) (g := wc.heap.size) B5.out.size (hc (histL (xs.take 0))))
    have B6c := hide (below_setRow ((Below.refl wc.heap.size wc).alloc (Nat.le_refl _) (.cells (hc (histL (xs.take 0))) 69)) (g := wc.heap.size) (Nat.le_refl _) (hc (histL (xs.take 0))))
    have hwc : w.heap.size ≤ wc.heap.size := B5.out.size
    refine wpList_store_blk rfl 69 (.tmp 7) (.tmp 39) rfl wc.heap.size rfl (hc (histL (xs.take 0))) (hc (histL (xs.take 0))) rfl (Blk.new wc _ _) rfl (info69l (histL_len _)) (hc_one _) ?_
    generalize (wc.alloc (.cells (hc (histL (xs.take 0))) 69)).setRow wc.heap.size (hc (histL (xs.take 0))) = w6 at *
    clear hz0 K5
    go_wp2_with fail
    go_loopw [4, 8] (fun _ i wr => ∃ j : Nat, j ≤ n ∧ i = .int .i64 j ∧ Hid (Blks wr [(wc.heap.size, 69, hc (histL (xs.take j))), (b5, 69, hc (histL xs))]) ∧ Hid (Below w.heap.size w wr) ∧ Hid (Below wc.heap.size wc wr)) (fun _ i _ => n - (intOf i).toNat)
    case atStart => exact ⟨0, Nat.zero_le _, rfl, K6, B6, B6c⟩
    case round =>
      clear K6 B6 B6c
      obtain ⟨j, hj, rfl, KJ, BJ, BC⟩ := hrel
      by_cases hj1 : j < n
      · obtain ⟨ba, off, rfl, hbb, x, hx, hcell⟩ := (rd_on R5.out BC.out).get hj1
        have hxl := HX.out x (List.mem_of_getElem? hx)
        have HA := hide (histL_add (xs.take j) x hxl.2 (by rw [List.length_take]; omega))
        rw [← take_snoc_get hx] at HA
        have HC := hide hcell
        clear hx hcell
        go_wp2_with fail
        refine region_flow (by kernel_rfl) (by kernel_rfl) (Γ := Nat) (fun γ => [.agg (hc (histL (xs.take j))), .slice (some ⟨ba, off, none⟩) n c, .int .i64 j, .pointer (some ⟨ba, off + j, none⟩), .int .i64 x, .tuple #[.agg (hc (histL (xs.take (j + 1)))), .int .i64 0], .tuple #[.agg (hc (histL (xs.take (j + 1)))), .int .i64 0], .agg (hc (histL (xs.take (j + 1)))), .int .i64 0, .pointer (some ⟨γ, 0, none⟩), undef, .int .i64 0])
          (fun l γ W => Below wr.heap.size wr W ∧ (l 9 = true → wr.heap.size ≤ γ ∧ Blk W γ 69 (if l 10 = true then hc (histL (xs.take (j + 1))) else hc z65)))
          (fun _ => rfl) 0 ⟨(Below.refl _ _).drew, (fun h => nomatch h)⟩ ?step ?fin
        case step =>
          refine ⟨?_, ?_, ?_, ?_, ?_, ?_, ?_, ?_, ?_, ?_, ?_, ?_, trivial⟩
          · intro l γ W hG hl hw hcl; exact stepV_value rfl _ (exec_load_blk 69 _ rfl wc.heap.size rfl (hc (histL (xs.take j))) _ ((KJ.out.get 0 rfl).next hG.1) Try.underlying69 rfl (info69l (histL_len _))) (.inr rfl) hG
          · intro l γ W hG hl hw hcl; exact stepV_value rfl _ rfl (.inr rfl) hG
          · intro l γ W hG hl hw hcl; exact stepV_value rfl _ rfl (.inr rfl) hG
          · intro l γ W hG hl hw hcl; exact stepV_value rfl _ (exec_indexAddr _ _ _ rfl (at_i64 ba off n c j W hj1 (by omega))) (.inr rfl) hG
          · intro l γ W hG hl hw hcl; exact stepV_value rfl _ (exec_load _ _ rfl (ld_i64 ⟨ba, off + j, none⟩ (.int .i64 x) W ((hG.1.cell (p := ⟨ba, off + j, none⟩) hbb).trans HC.out))) (.inr rfl) hG
          · intro l γ W hG hl hw hcl
            refine stepV_call rfl 43 _ (exec_call _ _ _ rfl rfl (enters_of Try.func43 (by kernel_rfl) rfl) [.agg (hc (histL (xs.take j))), .int .i64 x] rfl) ?_
            refine (add_any (histL (xs.take j)) x _ (histL_len _) hxl.1 hxl.2 (fun y hy => by have := histL_mem _ y hy; rw [List.length_take] at this; omega)).mono ?_
            rintro e w' ⟨rfl, hb⟩
            rw [HA.out.1, HA.out.2]
            exact ⟨_, γ, rfl, SameV.refl _ _ _, .inr rfl, below_on hG.1 hb, fun h => ⟨(hG.2 h).1, (hG.2 h).2.next hb⟩⟩
          · intro l γ W hG hl hw hcl; exact stepV_value rfl _ rfl (.inr rfl) hG
          · intro l γ W hG hl hw hcl; exact stepV_value rfl _ (exec_extract _ _ rfl _ rfl rfl) (.inr rfl) hG
          · intro l γ W hG hl hw hcl; exact stepV_value rfl _ (exec_extract _ _ rfl _ rfl rfl) (.inr rfl) hG
          · intro l γ W hG hl hw hcl
            refine stepV_run rfl _ _ W.heap.size (exec_alloc _ rfl (alloc_hist W)) (SameV.set (.pointer (some ⟨W.heap.size, 0, none⟩)) hl rfl) (.inr rfl) ?_
            have h14 : l 10 = false := by
              cases h : l 10 with
              | false => rfl
              | true => exact absurd (hcl 10 _ rfl h ⟨9, .data⟩ (by simp) rfl) (by rw [hl]; simp)
            exact ⟨hG.1.alloc hG.1.size _, fun _ => ⟨hG.1.size, by rw [show updL l 9 10 = l 10 from rfl, h14]; exact Blk.new _ _ _⟩⟩
          · intro l γ W hG hl hw hcl
            have hB := hG.2 (hw ⟨9, .data⟩ (by simp) rfl)
            rw [show l 10 = false from hl, if_neg (by simp)] at hB
            refine stepV_skip rfl _ rfl (exec_store_blk 69 _ _ rfl γ rfl (hc z65) (hc (histL (xs.take (j + 1)))) rfl hB.2 (by rw [hc_size, hc_size, histL_len]; rfl) (info69l (histL_len _)) (hc_one _)) ?_
            exact ⟨below_setRow hG.1 hB.1 _, fun _ => ⟨hB.1, hB.2.setRow _⟩⟩
          · intro l γ W hG hl hw hcl; exact stepV_value rfl _ rfl (.inr rfl) hG
        case fin =>
          intro l γ W hall hG
          have hB := hG.2 (hall 9 (by simp))
          rw [hall 10 (by simp), if_pos rfl] at hB
          have KW := hide (show Blks W [(wc.heap.size, 69, hc (histL (xs.take j))), (b5, 69, hc (histL xs))] from KJ.out.next hG.1)
          have BW := hide (BJ.out.trans (hG.1.mono BJ.out.size))
          have BCW := hide (BC.out.trans (hG.1.mono BC.out.size))
          have HB := hide hB.2
          have hne : wc.heap.size ≠ γ := by have := (KJ.out.get 0 rfl).lt; omega
          clear hB hG KJ BJ BC HA HC hall
          simp only [putAll, Act.put, List.setIfInBounds_toArray, List.set_cons_succ, List.set_cons_zero]
          go_wp2_with (first | refine pause (.load 69 _) rfl ?_ | refine pause (.store 69 _ _) rfl ?_)
          refine unpause ?_
          refine wpList_load_blk rfl 69 (.tmp 9) rfl γ rfl (hc (histL (xs.take (j + 1)))) _ HB.out Try.underlying69 rfl (info69l (histL_len _)) ?_
          go_wp2_with (first | refine pause (.load 69 _) rfl ?_ | refine pause (.store 69 _ _) rfl ?_)
          refine unpause ?_
          have K2 := hide (show Blks (W.setRow wc.heap.size (hc (histL (xs.take (j + 1))))) [(wc.heap.size, 69, hc (histL (xs.take (j + 1)))), (b5, 69, hc (histL xs))] from KW.out.row 0 rfl _)
          have B2 := hide (below_setRow BW.out (g := wc.heap.size) hwc (hc (histL (xs.take (j + 1)))))
          have B2c := hide (below_setRow BCW.out (g := wc.heap.size) (Nat.le_refl _) (hc (histL (xs.take (j + 1)))))
          refine wpList_store_blk rfl 69 (.tmp 7) (.tmp 57) rfl wc.heap.size rfl (hc (histL (xs.take j))) (hc (histL (xs.take (j + 1)))) rfl (KW.out.get 0 rfl) (by rw [hc_size, hc_size, histL_len, histL_len]) (info69l (histL_len _)) (hc_one _) ?_
          generalize W.setRow wc.heap.size (hc (histL (xs.take (j + 1)))) = w7 at *
          clear KW BW BCW HB
          go_wp2_with fail
          go_roundw
          case rel => exact ⟨j + 1, by omega, by go_num, K2, B2, B2c⟩
          case measure => simp [intOf]; omega
      · have hjn : j = n := by omega
        subst hjn
        rw [show xs.take j = xs from List.take_of_length_le (by have := HN.out; omega)] at KJ
        have hsum := histL_sum xs HX.out
        rw [HN.out] at hsum
        have HS := hide hsum
        clear hsum
        go_wp2_with fail
        refine region_flow (by kernel_rfl) (by kernel_rfl) (Γ := Unit) (fun _ => [.int .i64 0, .bool true, .bool true, .agg (hc (histL xs)), .slice A j c, .agg (hc (histL xs)), .bool true, .bool true, .bool true, .agg (hc (histL xs)), .agg (hc (histL xs)), .bool true, .bool true, .bool true, .agg (hc (histL xs)), .agg (wv (histL xs).sum), .slice A j c, .int .i64 j, .agg (wv j), .bool true, .bool true, .bool true])
          (fun l γ W => Below wr.heap.size wr W)
          (fun _ => rfl) () (Below.refl _ _).drew ?step ?fin
        case step =>
          refine ⟨?_, ?_, ?_, ?_, ?_, ?_, ?_, ?_, ?_, ?_, ?_, ?_, ?_, ?_, ?_, ?_, ?_, ?_, ?_, ?_, ?_, ?_, trivial⟩
          · intro l γ W hG hl hw hcl; exact stepV_value rfl _ rfl (.inr rfl) hG
          · intro l γ W hG hl hw hcl; exact stepV_value rfl _ (exec_binOp _ _ _ _ _ rfl rfl (eql_ok W)) (.inr rfl) hG
          · intro l γ W hG hl hw hcl; exact stepV_value rfl _ rfl (.inr rfl) hG
          · intro l γ W hG hl hw hcl; exact stepV_value rfl _ (exec_load_blk 69 _ rfl b5 rfl (hc (histL xs)) _ ((KJ.out.get 1 rfl).next hG) Try.underlying69 rfl (info69l (histL_len _))) (.inr rfl) hG
          · intro l γ W hG hl hw hcl; exact stepV_value rfl _ rfl (.inr rfl) hG
          · intro l γ W hG hl hw hcl
            refine stepV_call rfl 38 _ (exec_call _ _ _ rfl rfl (enters_of Try.func38 (by kernel_rfl) rfl) [.slice A j c] rfl) ?_
            refine (of_any A j c xs _ (rd_on (rd_on R5.out BC.out) hG) (by omega) HX.out).mono ?_
            rintro e w' ⟨rfl, hb⟩
            exact ⟨_, γ, rfl, SameV.refl _ _ _, .inr rfl, below_on hG hb⟩
          · intro l γ W hG hl hw hcl; exact stepV_value rfl _ (exec_binOp _ _ _ _ _ rfl (guard_h _ _ _ _ _) (eql_hh xs W)) (.inr rfl) hG
          · intro l γ W hG hl hw hcl; exact stepV_value rfl _ rfl (.inr rfl) hG
          · intro l γ W hG hl hw hcl; exact stepV_value rfl _ rfl (.inr rfl) hG
          · intro l γ W hG hl hw hcl; exact stepV_value rfl _ (exec_load_blk 69 _ rfl b5 rfl (hc (histL xs)) _ ((KJ.out.get 1 rfl).next hG) Try.underlying69 rfl (info69l (histL_len _))) (.inr rfl) hG
          · intro l γ W hG hl hw hcl; exact stepV_value rfl _ (exec_load_blk 69 _ rfl wc.heap.size rfl (hc (histL xs)) _ ((KJ.out.get 0 rfl).next hG) Try.underlying69 rfl (info69l (histL_len _))) (.inr rfl) hG
          · intro l γ W hG hl hw hcl; exact stepV_value rfl _ (exec_binOp _ _ _ _ _ rfl (guard_h _ _ _ _ _) (eql_hh xs W)) (.inr rfl) hG
          · intro l γ W hG hl hw hcl; exact stepV_value rfl _ rfl (.inr rfl) hG
          · intro l γ W hG hl hw hcl; exact stepV_value rfl _ rfl (.inr rfl) hG
          · intro l γ W hG hl hw hcl; exact stepV_value rfl _ (exec_load_blk 69 _ rfl b5 rfl (hc (histL xs)) _ ((KJ.out.get 1 rfl).next hG) Try.underlying69 rfl (info69l (histL_len _))) (.inr rfl) hG
          · intro l γ W hG hl hw hcl
            refine stepV_call rfl 47 _ (exec_call _ _ _ rfl rfl (enters_of Try.func47 (by kernel_rfl) rfl) [.agg (hc (histL xs))] rfl) ?_
            refine (total_any (histL xs) _ (histL_len _) (fun y hy => by have := histL_mem _ y hy; have := HN.out; omega)).mono ?_
            rintro e w' ⟨rfl, hb⟩
            exact ⟨_, γ, rfl, SameV.refl _ _ _, .inr rfl, below_on hG hb⟩
          · intro l γ W hG hl hw hcl; exact stepV_value rfl _ rfl (.inr rfl) hG
          · intro l γ W hG hl hw hcl; exact stepV_value rfl _ (exec_len _ _ _ rfl Try.underlying44 A j c rfl) (.inr rfl) hG
          · intro l γ W hG hl hw hcl
            refine stepV_call rfl 51 _ (exec_call _ _ _ rfl rfl (enters_of Try.func51 (by kernel_rfl) rfl) [.int .i64 j] rfl) ?_
            refine (wideOf_any j _ (by omega) (by omega)).mono ?_
            rintro e w' ⟨rfl, hb⟩
            exact ⟨_, γ, rfl, SameV.refl _ _ _, .inr rfl, below_on hG hb⟩
          · intro l γ W hG hl hw hcl; exact stepV_value rfl _ (exec_binOp _ _ _ _ _ rfl (guard_w _ _ _ _ _) (eql_wv2 HS.out W)) (.inr rfl) hG
          · intro l γ W hG hl hw hcl; exact stepV_value rfl _ rfl (.inr rfl) hG
          · intro l γ W hG hl hw hcl; exact stepV_value rfl _ rfl (.inr rfl) hG
        case fin =>
          intro l γ W hall hG
          simp only [putAll, Act.put, List.setIfInBounds_toArray, List.set_cons_succ, List.set_cons_zero]
          go_wp2_with fail
          go_ret
          exact ⟨rfl, BJ.out.trans (hG.mono BJ.out.size)⟩
set_option maxHeartbeats 1000000 in
set_option maxRecDepth 100000 in
theorem parts_walk (A : Option Addr) (n c : Nat) (z : Int) (xs : List Int) (w : World) (hr : Rd w w.heap.size 1 A n (xs.map i64v)) (hnc : n ≤ c) (hcap : c ≤ 140737488351232) (hx : inL xs) (hz1 : -9223372036854775808 ≤ z) (hz2 : z ≤ 9223372036854775807) :
    Calls Try.prog 10 #[.slice A n c, .int .i64 z] w fun e w' => e = .returned (.bool true) ∧ Below w.heap.size w w' := by
  by_cases c1 : 200 < n
  · have d1 : decide ((200 : Int) < (n : Int)) = true := decide_eq_true (by omega)
    clear hr hx c1
    go_enter Try.func10, Try.ntmps10
    go_wp2_with fail
    refine (alive5_any _).mono ?_
    rintro e w1 ⟨rfl, b1⟩
    go_wp2_with fail
    go_ret
    exact ⟨rfl, b1⟩
  have d1 : decide ((200 : Int) < (n : Int)) = false := decide_eq_false (by omega)
  by_cases c2 : z < 0
  · have d2 : decide (z < 0) = true := decide_eq_true (by omega)
    clear hr hx c1
    go_enter Try.func10, Try.ntmps10
    go_wp2_with fail
    refine (alive5_any _).mono ?_
    rintro e w1 ⟨rfl, b1⟩
    go_wp2_with fail
    go_ret
    exact ⟨rfl, b1⟩
  have d2 : decide (z < 0) = false := decide_eq_false (by omega)
  by_cases c3 : (n : Int) < z
  · have d3 : decide ((n : Int) < z) = true := decide_eq_true (by omega)
    clear hr hx c1
    go_enter Try.func10, Try.ntmps10
    go_wp2_with fail
    refine (alive5_any _).mono ?_
    rintro e w1 ⟨rfl, b1⟩
    go_wp2_with fail
    go_ret
    exact ⟨rfl, b1⟩
  obtain ⟨k, rfl⟩ := Int.eq_ofNat_of_zero_le (show 0 ≤ z by omega)
  exact parts_yes A n c k xs w hr (by omega) hnc hcap (by omega) hx
set_option maxRecDepth 100000 in
theorem parts_law (H : Type) (enc : TypeId × Value → H) : LawWalk H enc Try.prog 10 Try.f10 := by
  intro W base args ds p hval hA hwt
  rw [Try.params10] at hA hval hwt
  obtain ⟨v0, vs0, d0, ds0, p0, q0, hargs, rfl, rfl, h0, r0⟩ := trodAll_cons hA
  obtain ⟨v1, vs1, d1, ds1, p1, q1, rfl, rfl, rfl, h1, r1⟩ := trodAll_cons r0
  obtain ⟨rfl, rfl, rfl⟩ := trodAll_nil r1
  obtain rfl : args = #[v0, v1] := by cases args; simp_all
  simp only [DataW.weightsEach, List.all_append, Bool.and_eq_true] at hwt
  obtain ⟨w0, w1, _⟩ := hwt
  obtain ⟨Axs, nxs, cxs, lxs, rfl, hrxs, hcxs, hmxs, hwxs⟩ := open_nums Try.underlying44 Try.underlying2 (by kernel_rfl) (by decide +kernel) (hval 0 _ _ rfl rfl) h0 w0
  obtain ⟨z1, rfl, rfl, rfl, wfz1⟩ := open_int Try.underlying3 (hval 1 _ _ rfl rfl) h1
  exact parts_walk Axs nxs cxs z1 lxs W hrxs hcxs hmxs (fun x hx => bounds_i64 (hwxs x hx)) (by have := bounds_i64 wfz1; omega) (by have := bounds_i64 wfz1; omega)
set_option maxRecDepth 100000 in
theorem parts_lifted (os : Os) (started : os.Started) (H : Type) (enc : TypeId × Value → H) :
    ReturnsInHanded {} Try.checked os 10 .any (Rows.histPartsSpec.pre6 enc Try.prog Try.f10 Rows.histPartsRow.domain false) (Rows.histPartsSpec.post enc Try.prog Try.f10 false true false false) :=
  lift_law (C := Try.checked) (s := Rows.histPartsSpec) laidOut own started (by kernel_rfl) Try.func10 (by kernel_rfl) Try.underlying4 (by kernel_rfl) rfl
      (fun ds hd => by rw [Try.params10] at hd; match ds, hd with | [_, _], _ => rfl)
      (ChangeSpec.witness6 (enc := enc) (C := Try.checked) false ⟨#[], #[.slice none 0 0, .int .i64 0], []⟩ 8 (by kernel_rfl) (by kernel_rfl) (by kernel_rfl) (by kernel_rfl))
      (parts_law H enc)
theorem parts_holds : Rows.HistPartsSaid :=
  OpenClaim.holds_of_wide 10 Try.f10 rfl rfl rfl rfl rfl rfl rfl ⟨rfl, rfl, rfl, rfl, rfl⟩ rfl rfl rfl rfl rfl (by kernel_rfl) Try.func10 (by kernel_rfl)
    (of_decide_eq_true (by kernel_rfl)) (by unfold Func.isWrapper; first | (rw [if_pos (by decide +kernel)]; kernel_rfl) | (rw [if_neg (by decide +kernel)]; exact ⟨rfl, rfl⟩))
    (fun os started H enc _ => parts_lifted os started H enc)
#print axioms parts_holds
end Go.Proofs.Ytoammbfipinejaa
