/- Slices: make, append, pieces. No program is named here. -/
import Derived.Test.YtgidaifoiljgoaaVcK0
import Derived.Laws.MakeOwn
import Derived.Laws.OwnMore
import Derived.Great.FillDense
namespace Go.Proofs.Ytgidaifoiljgoaa
set_option linter.unusedSimpArgs false
set_option linter.unusedVariables false
open Go.RowKit
section
variable {P : Program} {w w' : World} {F F' : Nat → Prop} {ρ ρ' : Nat → Option Value} {H : Hp} {L : List AObj} {ty : TypeId} {n : Nat}
/-- What a row type's table tells of the elements. -/
theorem ti_elem {t : TypeId} (hk : (tiOf P t).kind = .sli) (hp : 0 < (tiOf P t).esize) (he : (tiOf P (tiOf P t).elem).kind ≠ .non) : ∃ i z, P.underlying t = some (.slice (tiOf P t).elem) ∧ P.info? (tiOf P t).elem = some i ∧ i.zero = some z ∧ i.size = (tiOf P t).esize ∧ i.bytes = (tiOf P t).ebytes ∧ z.cells.size = (tiOf P t).esize ∧ (tiOf P (tiOf P t).elem).zero = z.cells.toList ∧ ∀ v ∈ z.cells.toList, v.oneCell' = true := by
  obtain ⟨h1, h2, h3⟩ := ti_sli hk
  obtain ⟨i, h4, h5⟩ := info_of_cells h2 hp
  obtain ⟨i', d, z, hT, he'⟩ := tiOf_known he
  have : i' = i := by have := hT.info; rw [h4] at this; injection this with e; exact e.symm
  subst this
  refine ⟨i', z, h1, h4, hT.zero, h5, ?_, by rw [hT.size, h5], by rw [he']; cases d <;> rfl, hT.ones⟩
  unfold Program.bytesOf at h3
  rw [h4] at h3
  simpa using h3
theorem blk_own {v : Value} {A : Option Addr} {m c : Nat} (h : v = .slice A m c) : blkOf v = v.ownBlock := by subst h; cases A <;> rfl
theorem run_append_zero {t e : TypeId} {i : TypeInfo} {lo size m' c : Nat} {A : Option Addr} {v : Value} {xs : List Value} {ee : TypeId} (ht : P.underlying t = some (.slice e)) (hi : P.info? e = some i) (hown : Ow w lo ee size v m' xs) : (Builtin.append_ #[t, t] ty #[v, .slice A 0 c]).run P w = .ok v w := by
  rcases hown.2 with ⟨rfl, rfl⟩ | ⟨a, rfl, hlo, rfl⟩ | ⟨g, off, cap, rfl, hlo, hlt, hnc, _⟩
  · cases A <;> simp [Builtin.append_, run_underlying ht, sizeOf, typeInfo, hi, Builtin.lenOf, Builtin.firstCells, loadCells, loadCellsFrom]
  · cases A <;> simp [Builtin.append_, run_underlying ht, sizeOf, typeInfo, hi, Builtin.lenOf, Builtin.firstCells, storeCells, loadCells, loadCellsFrom]
  · cases A <;> simp [Builtin.append_, run_underlying ht, sizeOf, typeInfo, hi, Builtin.lenOf, Builtin.firstCells, hnc, storeCells, loadCells, loadCellsFrom]
/-- What append needs to know of what it appends. -/
def SrcOf (L : List AObj) (y : AV) (s : Nat) (rows : List (List D)) (rs : List Nat) : Prop :=
  (y = .d (.sl s rows) ∧ rs = []) ∨ (∃ j, y = .own j ∧ L[j]? = some (.sl s rows) ∧ rs = [j]) ∨ (∃ A c, y = .d (.v (.slice A 0 c)) ∧ rows = [] ∧ rs = [])
theorem SrcOf.rep {y : AV} {s : Nat} {rows : List (List D)} {rs : List Nat} {v : Value} (h : SrcOf L y s rows rs) (En : Env F ρ H w) (hL : ∀ i ∈ rs, H i = L[i]?) (hv : RA w F ρ y v) :
    ∃ A c vs, v = .slice A rows.length c ∧ Rd w w.heap.size s A rows.length vs ∧ RDs w F rows.flatten vs ∧ (rows = [] ∨ ∀ r ∈ rows, r.length = s) := by
  rcases h with ⟨rfl, rfl⟩ | ⟨j, rfl, hj, rfl⟩ | ⟨A, c, rfl, rfl, rfl⟩
  · cases hv with | d hv => cases hv with | sl hn hs h1 h2 hr hm =>
      subst hn
      have hl := hr.length
      have hfl : rows.flatten.length = rows.length * s := by
        clear hr hm hl h1
        induction rows with
        | nil => simp
        | cons r rows ih => simp [hs r (List.mem_cons_self ..), ih fun q hq => hs q (List.mem_cons_of_mem _ hq), Nat.add_mul]; omega
      refine ⟨_, _, _, rfl, ⟨by rw [hl, hfl], fun hp => ?_⟩, hr, .inr hs⟩
      obtain ⟨b, off, e, hb, hc⟩ := hm hp
      exact ⟨b, off, e, En.fb b hb, hc⟩
  · have hj' : H j = some (.sl s rows) := by rw [hL j (by simp)]; exact hj
    cases hv with | own hv =>
      obtain ⟨hh, e1, ⟨vs, how, hra, hs⟩, _⟩ := En.rep j _ hj' rfl
      rw [hv] at e1; injection e1 with e1; subst e1
      obtain ⟨A', c', he, h1, h2, hrd⟩ := how.form
      injection he with q1 q2 q3
      subst q1 q2 q3
      exact ⟨_, _, vs, rfl, hrd, hra, .inr hs⟩
  · have := hv.v_out
    subst this
    exact ⟨A, c, [], rfl, Rd.nil, .nil, .inl rfl⟩
/-- append onto a slice of the call's own. -/
theorem does_append {t : TypeId} {i s : Nat} {rows rows2 : List (List D)} {y : AV} {rs : List Nat} {sx xx : Operand} (hk : (tiOf P t).kind = .sli) (hs : (tiOf P t).esize = s) (hp : 0 < s) (he : (tiOf P (tiOf P t).elem).kind ≠ .non) (hi : L[i]? = some (.sl s rows)) (hy : SrcOf L y s rows2 rs)
    (hb : (rows.length + rows2.length) * (tiOf P t).ebytes ≤ 140737488355328) (hm : rows.length + rows2.length ≤ maxLen) :
    Does P (.call { callee := .builtin .append, args := #[sx, xx], argTypes := #[t, t] }) ty L n [.own i, y] ⟨i :: rs, [(i, .dead)], [.sl s (rows ++ rows2)]⟩ (.own n) := by
  intro o H F ρ w ev ho ht En hrs hn hx
  have hops : (Op.operands (.call { callee := .builtin .append, args := #[sx, xx], argTypes := #[t, t] })).toList = [sx, xx] := by simp [Op.operands, Call.operands]
  rw [hops] at hx
  obtain ⟨v, u, e', hv, hu⟩ := hx.two_out
  simp at e'
  have hn0 : H n = none := by simpa using hn 0 (by simp)
  have hi' : H i = some (.sl s rows) := by rw [hrs i (by simp)]; exact hi
  obtain ⟨A2, c2, vs2, rfl, hrd2, hra2, hs2⟩ := hy.rep En (fun j hj => hrs j (List.mem_cons_of_mem _ hj)) hu
  cases hv with | own hv =>
    rename_i A m c
    obtain ⟨hh, e1, ⟨vs, how, hra, hs1⟩, e3⟩ := En.rep i _ hi' rfl
    rw [hv] at e1; injection e1 with e1; subst e1
    obtain ⟨i0, z, h1, h2, h3, h4, h5, h6, _, _⟩ := ti_elem hk (by omega) he
    rw [hs] at h4 h6
    have hcat : ∀ r ∈ rows ++ rows2, r.length = s := fun r hr => (List.mem_append.1 hr).elim (hs1 r) fun hr => hs2.elim (fun e => by subst e; simp at hr) fun h => h r hr
    obtain ⟨v', w', hrun, ho', hg, hblk, _⟩ := run_append_ow (P := P) w 0 t o.type _ i0 z s _ h1 h2 h3 h4 h5 h6 hp (.slice A m c) rows.length vs how w.heap.size A2 rows2.length c2 vs2 hrd2 hra2.one hm hb (Nat.zero_le _)
    have hrun' : (execOp ev o).run P w = .ok (.value v') w' := by
      simp [execOp, ho, resolve, invoke, builtin, e'.1, e'.2, hrun]
    rw [hrun']
    obtain ⟨A', c', hv', _⟩ := ho'.form
    have hmF : ∀ b, F b → w'.heap[b]? = w.heap[b]? := fun b hbF => hg.block b (En.fb b hbF) fun e => (e3 b (by rw [blk_own rfl]; exact e.symm)).2 hbF
    have hin : ∀ b, blkOf v' = some b → (w.heap.size ≤ b ∧ b < w'.heap.size) ∨ blkOf (.slice A m c) = some b := by
      intro b hb'
      rw [blk_own hv'] at hb'
      rcases hblk with e | e
      · right; rw [blk_own rfl, ← e]; exact hb'
      · rw [e] at hb'; injection hb' with hb'
        rcases Nat.eq_zero_or_pos rows2.length with q | q
        · have hz : rows2 = [] := List.eq_nil_of_length_eq_zero q
          subst hz
          have hr0 := run_append_zero (P := P) (w := w) (ty := o.type) (A := A2) (c := c2) h1 h2 how
          simp only [List.length_nil] at hrun
          rw [hr0] at hrun
          injection hrun with q1 q2
          subst q1 q2
          right; rw [blk_own rfl, e, hb']
        · obtain ⟨g, off, cap, q1, _, q2, _⟩ := ho'.open_ (by omega)
          rw [q1] at e
          simp [Value.ownBlock] at e
          left; omega
    obtain ⟨S1, K1, E1⟩ := En.swap (n := n) (o' := .sl s (rows ++ rows2)) (h' := v') hi' rfl hv hn0 (by rw [blk_own rfl]; exact hg) hin
      ⟨vs ++ vs2, by rw [List.length_append]; exact ho', by rw [List.flatten_append]; exact (hra.mono hmF fun _ h => h).app (hra2.mono hmF fun _ h => h), hcat⟩
    refine ⟨F, _, S1, K1, E1, ?_⟩
    subst hv'
    exact .own (updF_same _ _ _)
/-- append onto nil. -/
theorem does_append_nil {t : TypeId} {s : Nat} {rows2 : List (List D)} {y : AV} {rs : List Nat} {sx xx : Operand} (hk : (tiOf P t).kind = .sli) (hs : (tiOf P t).esize = s) (hp : 0 < s) (he : (tiOf P (tiOf P t).elem).kind ≠ .non) (hy : SrcOf L y s rows2 rs)
    (hb : rows2.length * (tiOf P t).ebytes ≤ 140737488355328) (hm : rows2.length ≤ maxLen) :
    Does P (.call { callee := .builtin .append, args := #[sx, xx], argTypes := #[t, t] }) ty L n [.d (.v (.slice none 0 0)), y] ⟨rs, [], [.sl s rows2]⟩ (.own n) := by
  intro o H F ρ w ev ho ht En hrs hn hx
  have hops : (Op.operands (.call { callee := .builtin .append, args := #[sx, xx], argTypes := #[t, t] })).toList = [sx, xx] := by simp [Op.operands, Call.operands]
  rw [hops] at hx
  obtain ⟨v, u, e', hv, hu⟩ := hx.two_out
  simp at e'
  have hn0 : H n = none := by simpa using hn 0 (by simp)
  obtain ⟨A2, c2, vs2, rfl, hrd2, hra2, hs2⟩ := hy.rep En hrs hu
  have := hv.v_out
  subst this
  obtain ⟨i0, z, h1, h2, h3, h4, h5, h6, _, _⟩ := ti_elem hk (by omega) he
  rw [hs] at h4 h6
  obtain ⟨v', w', hrun, ho', hg, hblk, _⟩ := run_append_ow (P := P) w 0 t o.type _ i0 z s _ h1 h2 h3 h4 h5 h6 hp (.slice none 0 0) 0 [] (Ow.nil w 0 0 s) w.heap.size A2 rows2.length c2 vs2 hrd2 hra2.one (by omega) (by simpa using hb) (Nat.zero_le _)
  have hrun' : (execOp ev o).run P w = .ok (.value v') w' := by
    simp [execOp, ho, resolve, invoke, builtin, e'.1, e'.2, hrun]
  rw [hrun']
  simp only [Nat.zero_add, List.nil_append] at ho'
  obtain ⟨A', c', hv', _⟩ := ho'.form
  have hg : w.grownBy w' none := hg
  have hmF : ∀ b, F b → w'.heap[b]? = w.heap[b]? := fun b hbF => hg.block b (En.fb b hbF) (by simp)
  have hin : ∀ b, blkOf v' = some b → w.heap.size ≤ b ∧ b < w'.heap.size := by
    intro b hb'
    rw [blk_own hv'] at hb'
    rcases hblk with e | e
    · rw [e] at hb'; simp [Value.ownBlock] at hb'
    · rw [e] at hb'; injection hb' with hb'
      rcases Nat.eq_zero_or_pos rows2.length with q | q
      · have hz : rows2 = [] := List.eq_nil_of_length_eq_zero q
        subst hz
        have hr0 := run_append_zero (P := P) (w := w) (ty := o.type) (A := A2) (c := c2) h1 h2 (Ow.nil w 0 0 s)
        simp only [List.length_nil] at hrun
        rw [hr0] at hrun
        injection hrun with q1 q2
        subst q1
        simp [Value.ownBlock] at e
      · obtain ⟨g, off, cap, q1, _, q2, _⟩ := ho'.open_ q
        rw [q1] at e
        simp [Value.ownBlock] at e
        omega
  obtain ⟨S1, K1, E1⟩ := En.new (n := n) (o' := .sl s rows2) (h := v') hn0 hg hin
    ⟨vs2, ho', hra2.mono hmF fun _ h => h, fun r hr => hs2.elim (fun e => by subst e; simp at hr) fun h => h r hr⟩
  refine ⟨F, _, S1, K1, E1, ?_⟩
  subst hv'
  exact .own (updF_same _ _ _)
theorem madeCells_rows (z : Value) (k : Nat) (hz : 0 < z.cells.size) : (madeCells z.cells (k * z.cells.size)).toList = ((List.replicate k z).flatMap fun v => v.cells.toList) := by
  apply List.ext_getElem?
  intro j
  rw [Great.flat_get hz _ (fun v hv => by rw [List.eq_of_mem_replicate hv])]
  unfold madeCells
  by_cases hj : j < k * z.cells.size
  · have h1 : j / z.cells.size < k := (Nat.div_lt_iff_lt_mul hz).2 hj
    have h2 := Nat.mod_lt j hz
    rw [List.getElem?_replicate, if_pos h1]
    simp [hj, h2]
  · have h1 : ¬ j / z.cells.size < k := fun h => hj ((Nat.div_lt_iff_lt_mul hz).1 h)
    rw [List.getElem?_replicate, if_neg h1]
    simp; omega
theorem rep_rows {z : Value} {s : Nat} (h6 : z.cells.size = s) (h8 : ∀ v ∈ z.cells.toList, v.oneCell' = true) (k : Nat) : RDs w F (List.replicate k (z.cells.toList.map .v)).flatten ((List.replicate k z).flatMap fun v => v.cells.toList) ∧ ∀ r ∈ List.replicate k (z.cells.toList.map D.v), r.length = s := by
  refine ⟨?_, fun r hr => by rw [List.eq_of_mem_replicate hr]; simp [h6]⟩
  induction k with
  | zero => exact .nil
  | succ k ih => rw [List.replicate_succ, List.replicate_succ, List.flatten_cons, List.flatMap_cons]; exact (dv_rep h8).app ih
/-- make of a slice. -/
theorem does_make0 {t : TypeId} {s c : Nat} {kd kd' : IntKind} {a b : Operand} (hk : (tiOf P t).kind = .sli) (hs : (tiOf P t).esize = s) (hp : 0 < s) (he : (tiOf P (tiOf P t).elem).kind ≠ .non) (hb : (tiOf P t).ebytes * c ≤ 281474976710656) (hm : c ≤ maxLen) :
    Does P (.makeSlice t a b) ty L n [.d (.v (.int kd 0)), .d (.v (.int kd' c))] ⟨[], [], [.sl s []]⟩ (.own n) := by
  intro o H F ρ w ev ho ht En hrs hn hx
  obtain ⟨v, u, e', hv, hu⟩ := hx.two_out
  simp [Op.operands] at e'
  have := hv.v_out
  have := hu.v_out
  subst v u
  have hn0 : H n = none := by simpa using hn 0 (by simp)
  obtain ⟨i0, z, h1, h2, h3, h4, h5, h6, h7, h8⟩ := ti_elem hk (by omega) he
  rw [hs] at h4 h6
  obtain ⟨w', hrun, hown, hg⟩ := run_make_own (P := P) w 0 t _ i0 z s h1 h2 h3 h4 kd kd' c (by rw [h5]; exact hb) hm (Nat.zero_le _)
  have hrun' : (execOp ev o).run P w = .ok (.value (.slice (some ⟨w.heap.size, 0, none⟩) 0 c)) w' := by simp [execOp, ho, e'.1, e'.2, hrun]
  rw [hrun']
  have hlt : w.heap.size < w'.heap.size := (hown.lt _ rfl).2
  obtain ⟨S1, K1, E1⟩ := En.new (n := n) (o' := .sl s []) (h := .slice (some ⟨w.heap.size, 0, none⟩) 0 c) hn0 hg (fun b hb => by simp [blkOf] at hb; subst hb; exact ⟨Nat.le_refl _, hlt⟩)
    ⟨[], Ow.of_own (e := (tiOf P t).elem) hown, .nil, fun r hr => by simp at hr⟩
  exact ⟨F, _, S1, K1, E1, .own (updF_same _ _ _)⟩
theorem does_make {t : TypeId} {s c : Nat} {kd kd' : IntKind} {a b : Operand} (hk : (tiOf P t).kind = .sli) (hs : (tiOf P t).esize = s) (hp : 0 < s) (he : (tiOf P (tiOf P t).elem).kind ≠ .non) (hb : (tiOf P t).ebytes * c ≤ 281474976710656) (hm : c ≤ maxLen) :
    Does P (.makeSlice t a b) ty L n [.d (.v (.int kd c)), .d (.v (.int kd' c))] ⟨[], [], [.sl s (List.replicate c ((tiOf P (tiOf P t).elem).zero.map .v))]⟩ (.own n) := by
  intro o H F ρ w ev ho ht En hrs hn hx
  obtain ⟨v, u, e', hv, hu⟩ := hx.two_out
  simp [Op.operands] at e'
  have := hv.v_out
  have := hu.v_out
  subst v u
  have hn0 : H n = none := by simpa using hn 0 (by simp)
  obtain ⟨i0, z, h1, h2, h3, h4, h5, h6, h7, h8⟩ := ti_elem hk (by omega) he
  rw [hs] at h4 h6
  obtain ⟨w', hrun, hown, hg⟩ := run_make_full (P := P) w 0 t _ i0 z s h1 h2 h3 h4 kd kd' c (by rw [h5]; exact hb) hm (Nat.zero_le _)
  have hrun' : (execOp ev o).run P w = .ok (.value (.slice (some ⟨w.heap.size, 0, none⟩) c c)) w' := by simp [execOp, ho, e'.1, e'.2, hrun]
  rw [hrun']
  have hlt : w.heap.size < w'.heap.size := (hown.lt _ rfl).2
  have hrr := rep_rows (w := w') (F := F) h6 h8 c
  obtain ⟨S1, K1, E1⟩ := En.new (n := n) (o' := .sl s (List.replicate c ((tiOf P (tiOf P t).elem).zero.map .v))) (h := .slice (some ⟨w.heap.size, 0, none⟩) c c) hn0 hg (fun b hb => by simp [blkOf] at hb; subst hb; exact ⟨Nat.le_refl _, hlt⟩)
    ⟨_, by
      rw [List.length_replicate]
      have := Ow.of_own (e := (tiOf P t).elem) hown
      exact this, by
      rw [h7, ← h6, madeCells_rows z c (by omega)]; exact hrr.1, by rw [h7]; exact hrr.2⟩
  exact ⟨F, _, S1, K1, E1, .own (updF_same _ _ _)⟩
/-! ### pieces -/
def pieceOp (t : TypeId) (x : Operand) (lo hi : Option Operand) : Op := .slice t x lo hi none
theorem run_piece {t : TypeId} {s : Nat} (hk : (tiOf P t).kind = .sli) (hs : (tiOf P t).esize = s) (hp : 0 < s) {A : Option Addr} {m c lo hi : Nat} {kl kh : IntKind} (vlo vhi : Option Value) (hlo : (vlo = none ∧ lo = 0) ∨ vlo = some (.int kl lo)) (hhi : (vhi = none ∧ hi = m) ∨ vhi = some (.int kh hi)) (h1 : lo ≤ hi) (h2 : hi ≤ m) (h3 : m ≤ c) :
    (Instr.slice t (.slice A m c) vlo vhi none).run P w = .ok (.slice (if c = lo then A else A.map (·.add (lo * s))) (hi - lo) (c - lo)) w := by
  obtain ⟨g1, g2, _⟩ := ti_sli hk
  rw [hs] at g2
  obtain ⟨i, g3, g4⟩ := info_of_cells g2 hp
  have a1 : ((lo : Int) ≤ (hi : Int)) := by omega
  have a2 : ((hi : Int) ≤ (c : Int)) := by omega
  rcases hlo with ⟨rfl, rfl⟩ | rfl <;> rcases hhi with ⟨rfl, rfl⟩ | rfl
  · simp [Instr.slice, run_underlying g1, Instr.sliceBounds, sizeOf, typeInfo, g3, g4]
  · simp [Instr.slice, run_underlying g1, Instr.sliceBounds, Instr.sliceBound, asIntOf, sizeOf, typeInfo, g3, g4, show hi ≤ c by omega]
  · simp [Instr.slice, run_underlying g1, Instr.sliceBounds, Instr.sliceBound, asIntOf, sizeOf, typeInfo, g3, g4, h1]
  · simp [Instr.slice, run_underlying g1, Instr.sliceBounds, Instr.sliceBound, asIntOf, sizeOf, typeInfo, g3, g4, h1, show hi ≤ c by omega]
theorem flat_len {s : Nat} : ∀ {rows : List (List D)}, (∀ r ∈ rows, r.length = s) → rows.flatten.length = rows.length * s
  | [], _ => by simp
  | r :: rows, h => by
    rw [List.flatten_cons, List.length_append, h r (List.mem_cons_self ..), flat_len fun q hq => h q (List.mem_cons_of_mem _ hq), List.length_cons, Nat.add_mul]; omega
theorem flat_drop {s : Nat} : ∀ {rows : List (List D)} {k : Nat}, (∀ r ∈ rows, r.length = s) → (rows.drop k).flatten = rows.flatten.drop (k * s)
  | [], k, _ => by simp
  | r :: rows, 0, _ => by simp
  | r :: rows, k + 1, h => by
    have h1 := h r (List.mem_cons_self ..)
    rw [List.drop_succ_cons, flat_drop fun q hq => h q (List.mem_cons_of_mem _ hq), List.flatten_cons, List.drop_append, Nat.add_mul, Nat.one_mul, h1, Nat.add_sub_cancel, List.drop_of_length_le (l := r) (by omega)]; rfl
theorem flat_take {s : Nat} : ∀ {rows : List (List D)} {k : Nat}, (∀ r ∈ rows, r.length = s) → (rows.take k).flatten = rows.flatten.take (k * s)
  | [], k, _ => by simp
  | r :: rows, 0, _ => by simp
  | r :: rows, k + 1, h => by
    have h1 := h r (List.mem_cons_self ..)
    rw [List.take_succ_cons, List.flatten_cons, List.flatten_cons, flat_take fun q hq => h q (List.mem_cons_of_mem _ hq), List.take_append, Nat.add_mul, Nat.one_mul, h1, Nat.add_sub_cancel, List.take_of_length_le (l := r) (by omega)]
/-- A piece of data. -/
theorem RD.piece {s : Nat} {rows : List (List D)} {A : Option Addr} {m c lo hi : Nat} (h : RD w F (.sl s rows) (.slice A m c)) (h1 : lo ≤ hi) (h2 : hi ≤ rows.length) : m = rows.length ∧ m ≤ c ∧ RD w F (.sl s ((rows.take hi).drop lo)) (.slice (if c = lo then A else A.map (·.add (lo * s))) (hi - lo) (c - lo)) := by
  cases h with | sl hn hs g1 g2 hr hm =>
    subst hn
    have hs' : ∀ r ∈ (rows.take hi).drop lo, r.length = s := fun r hr => hs r (List.mem_of_mem_take (List.mem_of_mem_drop hr))
    refine ⟨rfl, g1, .sl (by simp; omega) hs' (by omega) (by omega) (by rw [flat_drop fun r hr => hs r (List.mem_of_mem_take hr), flat_take hs]; exact (hr.take (hi * s)).drop (lo * s)) fun hp => ?_⟩
    obtain ⟨b, off, rfl, hb, hc⟩ := hm (by omega)
    rw [if_neg (by omega)]
    refine ⟨b, off + lo * s, by simp [Addr.add_lit], hb, fun j hj => ?_⟩
    rw [Nat.add_assoc]
    simp only [List.length_drop, List.length_take] at hj
    rw [hc _ (by omega)]
    simp
theorem does_piece {t : TypeId} {s : Nat} {rows : List (List D)} {lo hi : Nat} {kl kh : IntKind} {x a b : Operand} (hk : (tiOf P t).kind = .sli) (hs : (tiOf P t).esize = s) (hp : 0 < s) (h1 : lo ≤ hi) (h2 : hi ≤ rows.length) :
    Does P (.slice t x (some a) (some b) none) ty L n [.d (.sl s rows), .d (.v (.int kl lo)), .d (.v (.int kh hi))] e0 (.d (.sl s ((rows.take hi).drop lo))) := does_val fun o w F ρ ev ho _ hx => by
  obtain ⟨v, u1, u2, e', hv, hu1, hu2⟩ := hx.three_out
  simp [Op.operands] at e'
  have := hu1.v_out
  have := hu2.v_out
  subst u1 u2
  cases hv with | d hv =>
    have hv0 := hv
    cases hv with | sl hn hs' g1 g2 hr hm =>
      rename_i A m c cs
      obtain ⟨q1, q2, q3⟩ := hv0.piece h1 h2
      refine ⟨_, ?_, .d q3⟩
      have hrun := run_piece (P := P) (w := w) hk hs hp (A := A) (m := m) (c := c) (lo := lo) (hi := hi) (kl := kl) (kh := kh) _ _ (.inr rfl) (.inr rfl) h1 (by omega) g1
      simp [execOp, ho, e'.1, e'.2.1, e'.2.2, hrun, Instr.sliceAt, run_underlying (ti_sli hk).1]
theorem does_from {t : TypeId} {s : Nat} {rows : List (List D)} {lo : Nat} {kl : IntKind} {x a : Operand} (hk : (tiOf P t).kind = .sli) (hs : (tiOf P t).esize = s) (hp : 0 < s) (h1 : lo ≤ rows.length) :
    Does P (.slice t x (some a) none none) ty L n [.d (.sl s rows), .d (.v (.int kl lo))] e0 (.d (.sl s (rows.drop lo))) := does_val fun o w F ρ ev ho _ hx => by
  obtain ⟨v, u1, e', hv, hu1⟩ := hx.two_out
  simp [Op.operands] at e'
  have := hu1.v_out
  subst u1
  cases hv with | d hv =>
    have hv0 := hv
    cases hv with | sl hn hs' g1 g2 hr hm =>
      rename_i A m c cs
      obtain ⟨q1, q2, q3⟩ := hv0.piece h1 (Nat.le_refl _)
      rw [List.take_of_length_le (Nat.le_refl _)] at q3
      refine ⟨_, ?_, .d q3⟩
      have hrun := run_piece (P := P) (w := w) hk hs hp (A := A) (m := m) (c := c) (lo := lo) (hi := rows.length) (kl := kl) (kh := .i64) _ _ (.inr rfl) (.inl ⟨rfl, hn⟩) h1 (by omega) g1
      simp [execOp, ho, e'.1, e'.2, hrun, Instr.sliceAt, run_underlying (ti_sli hk).1]
theorem does_upto {t : TypeId} {s : Nat} {rows : List (List D)} {hi : Nat} {kh : IntKind} {x b : Operand} (hk : (tiOf P t).kind = .sli) (hs : (tiOf P t).esize = s) (hp : 0 < s) (h2 : hi ≤ rows.length) :
    Does P (.slice t x none (some b) none) ty L n [.d (.sl s rows), .d (.v (.int kh hi))] e0 (.d (.sl s (rows.take hi))) := does_val fun o w F ρ ev ho _ hx => by
  obtain ⟨v, u1, e', hv, hu1⟩ := hx.two_out
  simp [Op.operands] at e'
  have := hu1.v_out
  subst u1
  cases hv with | d hv =>
    have hv0 := hv
    cases hv with | sl hn hs' g1 g2 hr hm =>
      rename_i A m c cs
      obtain ⟨q1, q2, q3⟩ := hv0.piece (Nat.zero_le hi) h2
      rw [List.drop_zero] at q3
      refine ⟨_, ?_, .d q3⟩
      have hrun := run_piece (P := P) (w := w) hk hs hp (A := A) (m := m) (c := c) (lo := 0) (hi := hi) (kl := .i64) (kh := kh) _ _ (.inl ⟨rfl, rfl⟩) (.inr rfl) (Nat.zero_le _) (by omega) g1
      simp [execOp, ho, e'.1, e'.2, hrun, Instr.sliceAt, run_underlying (ti_sli hk).1]
/-- The first k of a slice of the call's own. -/
theorem does_own_upto {t : TypeId} {i s : Nat} {rows : List (List D)} {hi : Nat} {kh : IntKind} {x b : Operand} (hk : (tiOf P t).kind = .sli) (hs : (tiOf P t).esize = s) (hp : 0 < s) (hi' : L[i]? = some (.sl s rows)) (h2 : hi ≤ rows.length) :
    Does P (.slice t x none (some b) none) ty L n [.own i, .d (.v (.int kh hi))] ⟨[i], [(i, .dead)], [.sl s (rows.take hi)]⟩ (.own n) := by
  intro o H F ρ w ev ho ht En hrs hn hx
  obtain ⟨v, u1, e', hv, hu1⟩ := hx.two_out
  simp [Op.operands] at e'
  have := hu1.v_out
  subst u1
  have hn0 : H n = none := by simpa using hn 0 (by simp)
  have hi0 : H i = some (.sl s rows) := by rw [hrs i (by simp)]; exact hi'
  cases hv with | own hv =>
    rename_i A m c
    obtain ⟨hh, e1, ⟨vs, how, hra, hs1⟩, e3⟩ := En.rep i _ hi0 rfl
    rw [hv] at e1; injection e1 with e1; subst e1
    obtain ⟨A', c', he, g1, g2, hrd⟩ := how.form
    injection he with q1 q2 q3
    subst q1 q2 q3
    have hrun := run_piece (P := P) (w := w) hk hs hp (A := A) (m := rows.length) (c := c) (lo := 0) (hi := hi) (kl := .i64) (kh := kh) _ _ (.inl ⟨rfl, rfl⟩) (.inr rfl) (Nat.zero_le _) h2 g1
    have hA : (if c = 0 then A else A.map (·.add (0 * s))) = A := by
      split
      · rfl
      · cases A <;> simp [Addr.add]
    rw [hA, Nat.sub_zero, Nat.sub_zero] at hrun
    have hrun' : (execOp ev o).run P w = .ok (.value (.slice A hi c)) w := by
      simp [execOp, ho, e'.1, e'.2, hrun, Instr.sliceAt, run_underlying (ti_sli hk).1]
    rw [hrun']
    have how' : Ow w 0 0 s (.slice A hi c) hi (vs.take (hi * s)) := by
      cases A with
      | some a => exact how.take h2 (by simp)
      | none =>
        rcases how.2 with ⟨q, q0⟩ | ⟨a, q, _⟩ | ⟨g, off, cap, q, _⟩
        · injection q with _ q1 q2
          subst q2
          have : hi = 0 := by omega
          subst this
          simpa using Ow.nil w 0 0 s
        · injection q with q; cases q
        · injection q with q; cases q
    have hw : w.grownBy w (blkOf (.slice A rows.length c)) := World.grownBy.refl w _
    obtain ⟨S1, K1, E1⟩ := En.swap (n := n) (o' := .sl s (rows.take hi)) (h' := .slice A hi c) hi0 rfl hv hn0 hw (fun b hb => .inr (by
      cases A with
      | none => simp [blkOf] at hb
      | some a => simpa [blkOf] using hb))
      ⟨vs.take (hi * s), by rw [List.length_take, Nat.min_eq_left h2]; exact how', by rw [flat_take hs1]; exact hra.take _, fun r hr => hs1 r (List.mem_of_mem_take hr)⟩
    exact ⟨F, _, S1, K1, E1, .own (updF_same _ _ _)⟩
/-- What a slice of the call's own holds, from place lo on, is data from now on. -/
theorem does_own_from {t : TypeId} {i s : Nat} {rows : List (List D)} {lo : Nat} {kl : IntKind} {x a : Operand} (hk : (tiOf P t).kind = .sli) (hs : (tiOf P t).esize = s) (hp : 0 < s) (hi' : L[i]? = some (.sl s rows)) (h2 : lo ≤ rows.length) :
    Does P (.slice t x (some a) none none) ty L n [.own i, .d (.v (.int kl lo))] ⟨[i], [(i, .dead)], []⟩ (.d (.sl s (rows.drop lo))) := by
  intro o H F ρ w ev ho ht En hrs hn hx
  obtain ⟨v, u1, e', hv, hu1⟩ := hx.two_out
  simp [Op.operands] at e'
  have := hu1.v_out
  subst u1
  have hi0 : H i = some (.sl s rows) := by rw [hrs i (by simp)]; exact hi'
  cases hv with | own hv =>
    rename_i A m c
    obtain ⟨hh, e1, ⟨vs, how, hra, hs1⟩, e3⟩ := En.rep i _ hi0 rfl
    rw [hv] at e1; injection e1 with e1; subst e1
    obtain ⟨A', c', he, g1, g2, hrd⟩ := how.form
    injection he with q1 q2 q3
    subst q1 q2 q3
    have hrun := run_piece (P := P) (w := w) hk hs hp (A := A) (m := rows.length) (c := c) (lo := lo) (hi := rows.length) (kl := kl) (kh := .i64) _ _ (.inr rfl) (.inl ⟨rfl, rfl⟩) h2 (Nat.le_refl _) g1
    have hrun' : (execOp ev o).run P w = .ok (.value (.slice (if c = lo then A else A.map (·.add (lo * s))) (rows.length - lo) (c - lo))) w := by
      simp [execOp, ho, e'.1, e'.2, hrun, Instr.sliceAt, run_underlying (ti_sli hk).1]
    rw [hrun']
    obtain ⟨S1, E1⟩ := En.freeze hi0 rfl hv
    have hd : RD w (fun b => F b ∨ blkOf (.slice A rows.length c) = some b) (.sl s rows) (.slice A rows.length c) := .sl rfl hs1 g1 g2 (hra.mono (fun _ _ => rfl) fun _ h => .inl h) fun hp' => by
      obtain ⟨b, off, rfl, hb, hc⟩ := hrd.2 hp'
      exact ⟨b, off, rfl, .inr rfl, hc⟩
    obtain ⟨_, _, q3⟩ := hd.piece h2 (Nat.le_refl _)
    rw [List.take_of_length_le (Nat.le_refl _)] at q3
    exact ⟨_, ρ, S1, Keep.refl _, E1, .d q3⟩
end
end Go.Proofs.Ytgidaifoiljgoaa
