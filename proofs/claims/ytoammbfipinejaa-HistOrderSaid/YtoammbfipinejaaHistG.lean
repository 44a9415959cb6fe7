/- Full: the maker of the iterator, and the iterator's contract. -/
import Derived.Test.YtoammbfipinejaaHistF
import Derived.RangeFuncNested
import Derived.RangeFuncBound
import Derived.RangeFuncCalls
import Derived.RangeFuncLeaves
import Derived.Shelf.Abstract
import Derived.Shelf.RegionOpen
import Derived.OwnWalkIn
import Derived.TacticsInMore
import Derived.LoopNIn
import Derived.LoopIn
namespace Go.Proofs.Ytoammbfipinejaa
open Go.RowKit
set_option linter.unusedVariables false
set_option linter.unusedSimpArgs false
set_option maxRecDepth 100000 in
theorem full_any (l : List Int) (w : World) :
    Calls Try.prog 50 #[.agg (hc l)] w fun e w' => e = .returned (.func (.func 89) #[] #[.pointer (some ⟨w.heap.size, 0, none⟩)]) ∧ w' = w.alloc (.cells (hc l) 69) := by
  have hmf : ∀ (fn : Fn) (first cap : Array Value) (w : World), (Instr.makeFunc fn first cap).run Try.prog w = .ok (.func fn first cap) w := fun _ _ _ _ => by kernel_rfl
  go_enter Try.func50, Try.ntmps50
  go_wp2
  go_ret
  exact ⟨rfl, rfl⟩
/-- The buckets that are not empty, below k. -/
def fullTo (l : List Int) (k : Nat) : List (Nat × Int) := (List.range k).filterMap fun b => if l[b]?.getD 0 = 0 then none else some (b, l[b]?.getD 0)
theorem fullTo_none {l : List Int} {k : Nat} (h : l[k]? = some 0) : fullTo l (k + 1) = fullTo l k := by
  unfold fullTo
  rw [List.range_succ, List.filterMap_append]
  simp [h]
theorem fullTo_some {l : List Int} {k : Nat} {x : Int} (h : l[k]? = some x) (hx : x ≠ 0) : fullTo l (k + 1) = fullTo l k ++ [(k, x)] := by
  unfold fullTo
  rw [List.range_succ, List.filterMap_append]
  simp [h, hx]
theorem fullTo_len (l : List Int) (k : Nat) : (fullTo l k).length ≤ k := by
  unfold fullTo
  exact Nat.le_trans (List.length_filterMap_le _ _) (by simp)
theorem fullTo_pre (l : List Int) : ∀ (j k : Nat), fullTo l k <+: fullTo l (k + j)
  | 0, k => List.prefix_refl _
  | j + 1, k => by
    refine List.IsPrefix.trans (fullTo_pre l j k) ?_
    unfold fullTo
    rw [← Nat.add_assoc, List.range_succ, List.filterMap_append]
    exact List.prefix_append _ _
def encP (x : Nat × Int) : Array Value := #[.int .i64 (x.1 : Int), .int .i64 x.2]
theorem wpListIn_load_blk {P : Program} {F : Fence} {n : Nat} {w : World} {ops : Array Oper} {rest : List Oper} {op : Oper} {a : Act} {Q : Exit → Act → World → Prop} (hgd : op.guard = none) (t : TypeId) (x : Operand) (ho : op.op = .load t x)
    (b : Nat) (hx : a.eval x = .pointer (some ⟨b, 0, none⟩)) (cs : Array Value) (d : TypeDesc) (hB : Blk w b t cs)
    (hu : P.underlying t = some d) (hd : d.isRow = true) (hi : (P.info? t).map (·.size) = some cs.size)
    (h : wpListIn F n P ops Q rest (a.put op.dst (.agg cs)) w) : wpListIn F n P ops Q (op :: rest) a w :=
  wpListIn_plain hgd fun _ hK => by
    refine ⟨fun f hf => by simp [Oper.about, ho] at hf, ?_⟩
    rw [Oper.semAt_eq _ _ _ (fun c h => by rw [ho] at h; cases h)]
    unfold execOp
    simp only [ho, hx, Instr.loadAt, Instr.sureAddr, Sem.run_bind, Sem.run_pure, Result.andThen_ok, run_load_blk hB hu hd hi]
    exact hK _ _ h
attribute [local go_sem] Oper.semAt_some
set_option maxHeartbeats 1000000 in
set_option maxRecDepth 100000 in
theorem fullIt (F : Fence) (n : Nat) (hF : F.fn 89) (hro : F.round = none) (hn : 1 ≤ n) (g : Nat) (l : List Int) (w : World) (hl : l.length = 65) (hB : Blk w g 69 (hc l)) :
    SeqStopsA F n Try.prog 89 #[.pointer (some ⟨g, 0, none⟩)] encP (fun xs => xs = fullTo l 65) (fun pre => pre <+: fullTo l 65) 65 w := fun lp J Jx W hW _ _ hY h0 => by
  have H9 := hide hl
  have HBW := hide (hB.next hW)
  refine callsIn_of_wp Try.func89 rfl hF ?_ hro
  simp only [Try.ntmps89, List.size_toArray, List.length_cons, List.length_nil, Nat.reduceAdd, Nat.reduceSub, Array.replicate_succ, Array.replicate_zero, List.push_toArray, List.append_toArray, List.nil_append, List.cons_append]
  gi_wp2_with (refine wpListIn_load_blk rfl 69 (.tmp 1) rfl g rfl (hc l) _ HBW.out Try.underlying69 rfl (info69l H9.out) ?_)
  gi_loopw [3, 4, 6] (fun _ _ i wr => ∃ (k : Nat), k ≤ 65 ∧ i = .int .i64 k ∧ J (fullTo l k) wr) (fun _ _ i _ => 65 - (intOf i).toNat)
  case atStart => exact ⟨0, by omega, rfl, h0⟩
  case round =>
    obtain ⟨k, hk, rfl, hJ⟩ := hrel
    by_cases hk1 : k < 65
    · obtain ⟨x, hx⟩ : ∃ x, l[k]? = some x := ⟨l[k]'(by omega), List.getElem?_eq_getElem _⟩
      have hix := fun w => index_h l k x w hk1 hx
      by_cases h0 : x = 0
      · subst h0
        have HJ2 := hide (show J (fullTo l (k + 1)) _ by rw [fullTo_none hx]; exact hJ)
        clear hx hJ
        gi_wp2
        refine ⟨fun _ h => (by cases h), ?_⟩
        gi_wp2
        go_roundw
        case rel => exact ⟨k + 1, by omega, by go_num, HJ2.out⟩
        case measure => simp [intOf]; omega
      · have hne : (x != 0) = true := by simpa using h0
        obtain ⟨fn, tmps, assign, body, hy, hR⟩ := hY (fullTo l k) (k, x) _ hJ (by have := fullTo_len l k; omega)
        dsimp only [encP] at hy
        have HX := hide hx
        clear hx hJ h0
        gi_wp2
        have hx0 : x ≠ 0 := by intro h; subst h; simp at hne
        refine hR.mono ?_
        rintro e W3 (⟨rfl, hJ3, _⟩ | ⟨rfl, hJx3⟩)
        · rw [← fullTo_some HX.out hx0] at hJ3
          gi_wp2
          go_roundw
          case rel => exact ⟨k + 1, by omega, by go_num, hJ3⟩
          case measure => simp [intOf]; omega
        · rw [← fullTo_some HX.out hx0] at hJx3
          gi_wp2
          refine bodyPost_ret (results_none rfl _ _ _) rfl ?_
          refine ⟨⟨_, rfl⟩, .inr ⟨_, ?_, hJx3⟩⟩
          have := fullTo_pre l (65 - (k + 1)) (k + 1)
          rw [show k + 1 + (65 - (k + 1)) = 65 by omega] at this
          exact this
    · obtain rfl : k = 65 := by omega
      gi_wp2
      go_end0
      exact ⟨⟨_, rfl⟩, .inl ⟨_, rfl, hJ⟩⟩
end Go.Proofs.Ytoammbfipinejaa
