/- Whole arrays and structs, by value, out of and into blocks that are known whole. No program is named here. -/
import Derived.Test.YtgidaifoiljgoaaBase
import Derived.Laws.ResultCell
import Derived.Laws.Rows
import Derived.Laws.Tables
import Derived.Deep.MidRow
namespace Go.Proofs.Ytgidaifoiljgoaa
set_option linter.unusedSimpArgs false
set_option linter.unusedVariables false
open Go.RowKit
section
variable {P : Program} {w : World}
theorem run_load_blk {b : Nat} {t : TypeId} {cs : Array Value} {d : TypeDesc} (hB : Blk w b t cs) (hu : P.underlying t = some d) (hd : d.isRow = true) (hi : (P.info? t).map (·.size) = some cs.size) :
    (loadVar t ⟨b, 0, none⟩).run P w = .ok (.agg cs) w := run_loadVar_row w b t t cs (0, 0) d hB hu (by cases d <;> simp_all) hi
theorem wpList_load_blk {ops : Array Oper} {rest : List Oper} {op : Oper} {a : Act} {Q : Exit → Act → World → Prop} (hgd : op.guard = none) (t : TypeId) (x : Operand) (ho : op.op = .load t x)
    (b : Nat) (hx : a.eval x = .pointer (some ⟨b, 0, none⟩)) (cs : Array Value) (d : TypeDesc) (hB : Blk w b t cs)
    (hu : P.underlying t = some d) (hd : d.isRow = true) (hi : (P.info? t).map (·.size) = some cs.size)
    (h : wpList P ops Q rest (a.put op.dst (.agg cs)) w) : wpList P ops Q (op :: rest) a w :=
  wpList_plain hgd fun _ hK => by
    unfold Oper.wp execOp
    simp only [ho, hx, Instr.loadAt, Instr.sureAddr, Sem.run_bind, Sem.run_pure, Result.andThen_ok, run_load_blk hB hu hd hi]
    exact hK _ _ h
theorem heap_setRow (w : World) (g : Nat) (cs : Array Value) (k : Nat) (hk : k ≠ g) : (w.setRow g cs).heap[k]? = w.heap[k]? := by
  simp only [World.setRow]
  rw [Array.getElem?_modify]
  rw [if_neg (fun e => hk e.symm)]
theorem Blk.setRow {b : Nat} {t : TypeId} {cs : Array Value} (h : Blk w b t cs) (cs' : Array Value) : Blk (w.setRow b cs') b t cs' := by
  unfold Blk at h ⊢
  simp only [World.setRow]
  rw [Array.getElem?_modify, if_pos rfl, h]
  rfl
theorem Blk.setRow_far {b g : Nat} {t : TypeId} {cs : Array Value} (h : Blk w b t cs) (hg : b ≠ g) (cs' : Array Value) : Blk (w.setRow g cs') b t cs := (heap_setRow w g cs' b hg).trans h
theorem size_setRow (w : World) (g : Nat) (cs : Array Value) : (w.setRow g cs).heap.size = w.heap.size := by simp [World.setRow]
theorem grown_setRow (w : World) (g : Nat) (cs : Array Value) : w.grownBy (w.setRow g cs) (some g) :=
  ⟨rfl, rfl, rfl, by rw [size_setRow]; exact Nat.le_refl _, fun i hi hg => heap_setRow w g cs i (fun e => hg (by rw [e]))⟩
theorem below_setRow {B : Nat} {a : World} (h : Below B a w) {g : Nat} (hg : B ≤ g) (cs : Array Value) : Below B a (w.setRow g cs) :=
  ⟨h.os, h.tape, h.output, by rw [size_setRow]; exact h.size, fun i hi => (heap_setRow w g cs i (by omega)).trans (h.block i hi)⟩
theorem wpList_store_blk {ops : Array Oper} {rest : List Oper} {op : Oper} {a : Act} {Q : Exit → Act → World → Prop} (hgd : op.guard = none) (t : TypeId) (x y : Operand) (ho : op.op = .store t x y)
    (b : Nat) (hx : a.eval x = .pointer (some ⟨b, 0, none⟩)) (old cs : Array Value) (hy : a.eval y = .agg cs) (hB : Blk w b t old)
    (hs : old.size = cs.size) (hi : (P.info? t).map (·.size) = some cs.size) (h1 : cs.all (·.oneCell') = true)
    (h : wpList P ops Q rest (a.put op.dst undef) (w.setRow b cs)) : wpList P ops Q (op :: rest) a w :=
  wpList_plain hgd fun _ hK => by
    unfold Oper.wp execOp
    simp only [ho, hx, hy, Instr.storeAt, Instr.sureAddr, Sem.run_bind, Sem.run_pure, Result.andThen_ok, run_storeVar_row w b t t old cs hB hi hs h1]
    exact hK _ _ h
/-- A result that lies in a variable of its own. -/
theorem results_cell {fn : Func} {p : Tmp} {t : TypeId} (h : fn.results = #[.cell p t]) (tmps : Array Value) (b : Nat) (hp : tmps.getD p undef = .pointer (some ⟨b, 0, none⟩)) (cs : Array Value) (d : TypeDesc) (hB : Blk w b t cs)
    (hu : P.underlying t = some d) (hd : d.isRow = true) (hi : (P.info? t).map (·.size) = some cs.size) : (results fn tmps).run P w = .ok (.agg cs) w := by
  have hl := run_load_blk hB hu hd hi
  have hp' : tmps[p]?.getD undef = .pointer (some ⟨b, 0, none⟩) := by simpa using hp
  simp only [results, h]
  simp [Sem.run_bind, hp', asAddr, Result.andThen, hl]
theorem results_cell2 {fn : Func} {p u : Tmp} {t : TypeId} (h : fn.results = #[.cell p t, .tmp u]) (tmps : Array Value) (b : Nat) (hp : tmps.getD p undef = .pointer (some ⟨b, 0, none⟩)) (cs : Array Value) (d : TypeDesc) (hB : Blk w b t cs)
    (hu : P.underlying t = some d) (hd : d.isRow = true) (hi : (P.info? t).map (·.size) = some cs.size) : (results fn tmps).run P w = .ok (.tuple #[.agg cs, tmps.getD u undef]) w := by
  have hl := run_load_blk hB hu hd hi
  have hp' : tmps[p]?.getD undef = .pointer (some ⟨b, 0, none⟩) := by simpa using hp
  rw [results_cell_tmp h]
  simp [hp', asAddr, Result.andThen, hl]
end
end Go.Proofs.Ytgidaifoiljgoaa
