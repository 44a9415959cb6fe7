/- Several blocks that are known whole, in one fact. No program is named here. -/
import Derived.Test.YtgidaifoiljgoaaRow
namespace Go.Proofs.Ytgidaifoiljgoaa
set_option linter.unusedSimpArgs false
set_option linter.unusedVariables false
open Go.RowKit
def Blks (w : World) (l : List (Nat × TypeId × Array Value)) : Prop := (∀ (i g : Nat) (t : TypeId) (cs : Array Value), l[i]? = some (g, t, cs) → Blk w g t cs) ∧ ∀ (i j : Nat) (x y : Nat × TypeId × Array Value), l[i]? = some x → l[j]? = some y → x.1 = y.1 → i = j
section
variable {w w' : World} {l : List (Nat × TypeId × Array Value)}
theorem Blks.nil (w : World) : Blks w [] := ⟨fun i g t cs h => by simp at h, fun i j x y h => by simp at h⟩
theorem Blks.one {g : Nat} {t : TypeId} {cs : Array Value} (h : Blk w g t cs) : Blks w [(g, t, cs)] :=
  ⟨fun i g' t' cs' hi => by cases i <;> simp at hi; obtain ⟨rfl, rfl, rfl⟩ := hi; exact h, fun i j x y hi hj _ => by cases i <;> cases j <;> simp at hi hj; rfl⟩
theorem Blks.get (h : Blks w l) (i : Nat) {g : Nat} {t : TypeId} {cs : Array Value} (hi : l[i]? = some (g, t, cs)) : Blk w g t cs := h.1 i g t cs hi
theorem Blks.next (h : Blks w l) (hb : Below w.heap.size w w') : Blks w' l := ⟨fun i g t cs hi => (h.1 i g t cs hi).next hb, h.2⟩
theorem Blks.alloc (h : Blks w l) (o : Obj) : Blks (w.alloc o) l := ⟨fun i g t cs hi => (h.1 i g t cs hi).alloc o, h.2⟩
theorem Blks.drew (h : Blks w l) : Blks w.drew l := h
theorem Blks.new (h : Blks w l) (t : TypeId) (cs : Array Value) : Blks (w.alloc (.cells cs t)) ((w.heap.size, t, cs) :: l) := by
  refine ⟨fun i g t' cs' hi => ?_, fun i j x y hi hj he => ?_⟩
  · cases i with
    | zero => simp at hi; obtain ⟨rfl, rfl, rfl⟩ := hi; exact Blk.new _ _ _
    | succ i => exact (h.1 i g t' cs' (by simpa using hi)).alloc _
  · have lt : ∀ (k : Nat) (z : Nat × TypeId × Array Value), l[k]? = some z → z.1 < w.heap.size := fun k z hk => (h.1 k z.1 z.2.1 z.2.2 hk).lt
    cases i with
    | zero =>
      cases j with
      | zero => rfl
      | succ j => simp at hi hj; have := lt j y hj; subst hi; simp at he; omega
    | succ i =>
      cases j with
      | zero => simp at hi hj; have := lt i x hi; subst hj; simp at he; omega
      | succ j => exact congrArg Nat.succ (h.2 i j x y (by simpa using hi) (by simpa using hj) he)
theorem Blks.lt (h : Blks w l) (i : Nat) {g : Nat} {t : TypeId} {cs : Array Value} (hi : l[i]? = some (g, t, cs)) : g < w.heap.size := (h.get i hi).lt
theorem Blks.upd (h : Blks w l) (i : Nat) {g : Nat} {t : TypeId} {cs cs' : Array Value} (hi : l[i]? = some (g, t, cs)) (h1 : Blk w' g t cs') (h2 : ∀ k, k ≠ g → w'.heap[k]? = w.heap[k]?) : Blks w' (l.set i (g, t, cs')) := by
  have hil : i < l.length := (List.getElem?_eq_some_iff.1 hi).1
  have hfst : ∀ (k : Nat) (z : Nat × TypeId × Array Value), (l.set i (g, t, cs'))[k]? = some z → ∃ z', l[k]? = some z' ∧ z'.1 = z.1 := by
    intro k z hk
    rw [List.getElem?_set] at hk
    by_cases hik : i = k
    · subst hik; rw [if_pos rfl, if_pos hil] at hk; injection hk with hk; subst hk; exact ⟨_, hi, rfl⟩
    · rw [if_neg hik] at hk; exact ⟨z, hk, rfl⟩
  refine ⟨fun k g' t' c' hk => ?_, fun a b x y ha hb he => ?_⟩
  · rw [List.getElem?_set] at hk
    by_cases hik : i = k
    · subst hik; rw [if_pos rfl, if_pos hil] at hk; injection hk with hk; injection hk with e1 e2; injection e2 with e2 e3; subst e1; subst e2; subst e3; exact h1
    · rw [if_neg hik] at hk
      have hne : g' ≠ g := fun e => hik (h.2 i k _ _ hi hk e.symm)
      exact (h2 g' hne).trans (h.get k hk)
  · obtain ⟨x', hx, ex⟩ := hfst a x ha
    obtain ⟨y', hy, ey⟩ := hfst b y hb
    exact h.2 a b x' y' hx hy (by rw [ex, ey, he])
theorem Blks.row (h : Blks w l) (i : Nat) {g : Nat} {t : TypeId} {cs : Array Value} (hi : l[i]? = some (g, t, cs)) (cs' : Array Value) : Blks (w.setRow g cs') (l.set i (g, t, cs')) :=
  h.upd i hi ((h.get i hi).setRow cs') fun k hk => heap_setRow w g cs' k hk
theorem Blks.cell (h : Blks w l) (i : Nat) {g : Nat} {t : TypeId} {cs : Array Value} (hi : l[i]? = some (g, t, cs)) (k : Nat) (u : Value) : Blks (w.setCell ⟨g, k, none⟩ u) (l.set i (g, t, cs.setIfInBounds k u)) :=
  h.upd i hi ((h.get i hi).set_ k u) fun k' hk => Below.heap_setCell w _ u k' hk
theorem Blks.far (h : Blks w l) {p : Addr} (hp : ∀ (i g : Nat) (t : TypeId) (cs : Array Value), l[i]? = some (g, t, cs) → g ≠ p.block) (u : Value) : Blks (w.setCell p u) l :=
  ⟨fun i g t cs hi => (h.1 i g t cs hi).far (hp i g t cs hi) u, h.2⟩
theorem Blks.grown (h : Blks w l) {row : Option Nat} (hb : w.grownBy w' row) (hr : ∀ (i g : Nat) (t : TypeId) (cs : Array Value), l[i]? = some (g, t, cs) → some g ≠ row) : Blks w' l :=
  ⟨fun i g t cs hi => (h.1 i g t cs hi).grown hb (hr i g t cs hi), h.2⟩
theorem Blks.tail {x : Nat × TypeId × Array Value} (h : Blks w (x :: l)) : Blks w l :=
  ⟨fun i g t cs hi => h.1 (i + 1) g t cs (by simpa using hi), fun i j x y hi hj he => by have := h.2 (i + 1) (j + 1) x y (by simpa using hi) (by simpa using hj) he; omega⟩
end
theorem Blk.range {w : World} {g : Nat} {t : TypeId} {cs : Array Value} (h : Blk w g t cs) (l : List Value) (hl : cs = l.toArray) : w.rangeAt g 0 l := fun j v hv => by
  subst hl
  rw [Nat.zero_add, h.cell j]
  simpa using hv
theorem wp_load_blk {P : Program} {w : World} {op : Oper} {a : Act} {K : Act → World → Prop} {Q : Exit → Act → World → Prop} (t : TypeId) (x : Operand) (ho : op.op = .load t x)
    (b : Nat) (hx : a.eval x = .pointer (some ⟨b, 0, none⟩)) (cs : Array Value) (d : TypeDesc) (hB : Blk w b t cs)
    (hu : P.underlying t = some d) (hd : d.isRow = true) (hi : (P.info? t).map (·.size) = some cs.size)
    (h : K (a.put op.dst (.agg cs)) w) : op.wp P a w K Q := by
  unfold Oper.wp execOp
  simp only [ho, hx, Instr.loadAt, Instr.sureAddr, Sem.run_bind, Sem.run_pure, Result.andThen_ok, run_load_blk hB hu hd hi]
  exact h
/-- The same where the operation is guarded and wanted. -/
theorem wpList_load_blk_g {P : Program} {w : World} {ops : Array Oper} {rest : List Oper} {op : Oper} {a : Act} {Q : Exit → Act → World → Prop} (hw : Region.wanted op (yielded ops a.tmps) = true) (t : TypeId) (x : Operand) (ho : op.op = .load t x)
    (b : Nat) (hx : a.eval x = .pointer (some ⟨b, 0, none⟩)) (cs : Array Value) (d : TypeDesc) (hB : Blk w b t cs)
    (hu : P.underlying t = some d) (hd : d.isRow = true) (hi : (P.info? t).map (·.size) = some cs.size)
    (h : wpList P ops Q rest (a.put op.dst (.agg cs)) w) : wpList P ops Q (op :: rest) a w := by
  unfold wpList
  rw [if_pos hw]
  exact .inl (wp_load_blk t x ho b hx cs d hB hu hd hi h)
/-- A cell of a block of numbers. -/
theorem Blk.num {w : World} {g : Nat} {t : TypeId} {l : List Int} (h : Blk w g t (l.map (Value.int .i64)).toArray) {k : Nat} {x : Int} (hx : l[k]? = some x) : w.cell? ⟨g, k, none⟩ = some (.int .i64 x) := by
  rw [h.cell k]; simp [hx]
/-- A goal that the walk's simp does not look into. -/
structure Paused (p : Prop) (f : p → Unit) : Prop where
  out : p
theorem unpause {p : Prop} {f : p → Unit} (h : p) : Paused p f := ⟨h⟩
/-- The walk stops ahead of an operation of the form q: 'go_wp2_with (refine pause (.load 69 _) rfl ?_)', then 'refine unpause ?_' and the law by hand. -/
theorem pause {P : Program} {w : World} {ops : Array Oper} {rest : List Oper} {op : Oper} {a : Act} {Q : Exit → Act → World → Prop} (q : Op) (_ho : op.op = q) (h : Paused (wpList P ops Q (op :: rest) a w) (fun _ => ())) : wpList P ops Q (op :: rest) a w := h.out
end Go.Proofs.Ytgidaifoiljgoaa
