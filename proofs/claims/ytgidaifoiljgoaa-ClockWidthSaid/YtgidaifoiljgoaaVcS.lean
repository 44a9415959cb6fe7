/- Literals of slices and structs; least and greatest; numbers of another kind. No program is named here. -/
import Derived.Test.YtgidaifoiljgoaaVcR
import Derived.Great.BuildSlice
namespace Go.Proofs.Ytgidaifoiljgoaa
set_option linter.unusedSimpArgs false
set_option linter.unusedVariables false
open Go.RowKit
section
variable {P : Program} {w w' : World} {F F' : Nat → Prop} {ρ ρ' : Nat → Option Value} {H : Hp} {L : List AObj} {ty : TypeId} {n : Nat}
/-- A value as the cells of an element. -/
def rowOfK (size : Nat) (x : AV) (k : List D → Prop) : Prop :=
  match x with
  | .d (.v u) => oneV u (eqK size 1 (k [.v u]))
  | .d (.sl s r) => eqK size 1 (k [.sl s r])
  | .d (.agg ds) => match bigB size with
    | true => ds.length = size ∧ k ds
    | false => takeK ds size fun l => lenK ds size (k l)
  | _ => False
theorem rowOfK_out {size : Nat} {x : AV} {k : List D → Prop} (h : rowOfK size x k) : ∃ r, k r ∧ r.length = size ∧ ∀ w F ρ v, RA w F ρ x v → v.cells.size = size ∧ RDs w F r v.cells.toList := by
  unfold rowOfK at h
  split at h
  · obtain ⟨h1, h2, h3⟩ := oneV_out h
    obtain ⟨e, h4⟩ := eqK_out h3
    exact ⟨_, h4, e.symm, fun w F ρ v hr => by have := hr.v_out; subst this; rw [h2]; exact ⟨e.symm, .cons (.v _) h1 .nil⟩⟩
  · obtain ⟨e, h4⟩ := eqK_out h
    exact ⟨_, h4, e.symm, fun w F ρ v hr => by cases hr with | d hr => (have hr' := hr; cases hr with | sl a b c d e' f => exact ⟨e.symm, .cons hr' rfl .nil⟩)⟩
  · split at h
    · refine ⟨_, h.2, h.1, fun w F ρ v hr => ?_⟩
      cases hr with | d hr => cases hr with | agg hr => exact ⟨by simpa [Value.cells] using hr.length.trans h.1, by simpa [Value.cells] using hr⟩
    · obtain ⟨h1, h2⟩ := takeK_out h
      obtain ⟨h3, h4⟩ := lenK_out h2
      rw [List.take_of_length_le (by omega)] at h4
      refine ⟨_, h4, h3, fun w F ρ v hr => ?_⟩
      cases hr with | d hr => cases hr with | agg hr => exact ⟨by simpa [Value.cells] using hr.length.trans h3, by simpa [Value.cells] using hr⟩
  · exact h.elim
def rowsOfK (size : Nat) : List AV → (List (List D) → Prop) → Prop
  | [], k => k []
  | x :: r, k => rowOfK size x fun y => rowsOfK size r fun l => k (y :: l)
theorem rowsOfK_out {size : Nat} : ∀ {xs : List AV} {k : List (List D) → Prop}, rowsOfK size xs k → ∃ rows, k rows ∧ (∀ r ∈ rows, r.length = size) ∧ rows.length = xs.length ∧ ∀ w F ρ vs, RAs w F ρ xs vs → (∀ v ∈ vs, v.cells.size = size) ∧ RDs w F rows.flatten (vs.flatMap fun v => v.cells.toList)
  | [], k, h => ⟨[], h, by simp, rfl, fun w F ρ vs hr => by cases hr; exact ⟨by simp, .nil⟩⟩
  | x :: r, k, h => by
    obtain ⟨y, h1, h2, h3⟩ := rowOfK_out h
    obtain ⟨rows, h4, h5, h6, h7⟩ := rowsOfK_out (xs := r) h1
    refine ⟨y :: rows, h4, fun q hq => (List.mem_cons.1 hq).elim (fun e => e ▸ h2) (h5 q), by simp [h6], fun w F ρ vs hr => ?_⟩
    cases hr with | cons hr hrs =>
      obtain ⟨g1, g2⟩ := h3 w F ρ _ hr
      obtain ⟨g3, g4⟩ := h7 w F ρ _ hrs
      refine ⟨fun v hv => (List.mem_cons.1 hv).elim (fun e => e ▸ g1) (g3 v), ?_⟩
      rw [List.flatten_cons, List.flatMap_cons]
      exact g2.app g4
/-- The parts stand in order, and are all. -/
def seqB : List (Nat × Operand) → Nat → Nat → Bool
  | [], i, len => Nat.beq i len
  | (j, _) :: r, i, len => Nat.beq j i && seqB r (i + 1) len
theorem seqB_out {ev : Operand → Value} : ∀ {ps : List (Nat × Operand)} {i len : Nat}, seqB ps i len = true → i + ps.length = len ∧ (ps.map fun p => (p.1, ev p.2)) = ((ps.map fun p => ev p.2).zipIdx i).map fun x => (x.2, x.1)
  | [], i, len, h => ⟨by simpa using Nat.eq_of_beq_eq_true h, rfl⟩
  | (j, x) :: r, i, len, h => by
    simp only [seqB, Bool.and_eq_true] at h
    have := Nat.eq_of_beq_eq_true h.1
    subst this
    obtain ⟨h1, h2⟩ := seqB_out (ev := ev) (ps := r) h.2
    exact ⟨by simp; omega, by simp [h2]⟩
def buildSliceK (T : TypeId → TI) (t len : Nat) (ps : List (Nat × Operand)) (ev : Operand → AV) (L : List AObj) (K : Eff → AV → Prop) : Prop :=
  match (T t).kind with
  | .sli => nonK (T (T t).elem) <| posK (T t).esize <| match seqB ps 0 len && Nat.ble (len * (T t).esize) 16777216 with
    | true => evsK ev (ps.map (·.2)) fun xs => rowsOfK (T t).esize xs fun rows => lenNK L fun n => K ⟨[], [], [.sl (T t).esize rows]⟩ (.own n)
    | false => False
  | _ => False
theorem buildSliceK_out {t len : Nat} {ps : Array (Nat × Operand)} {ev : Operand → AV} {K : Eff → AV → Prop} (h : buildSliceK (tiOf P) t len ps.toList ev L K) : ∃ e r, K e r ∧ Does P (.buildSlice t len ps) ty L L.length ((Op.operands (.buildSlice t len ps)).toList.map ev) e r := by
  unfold buildSliceK at h
  split at h
  · rename_i hk
    obtain ⟨he, h⟩ := nonK_out h
    obtain ⟨hp, h⟩ := posK_out h
    split at h
    · rename_i hsq
      simp only [Bool.and_eq_true, Nat.ble_eq] at hsq
      obtain ⟨rows, h1, h2, h3, h4⟩ := rowsOfK_out (evsK_out h)
      refine ⟨_, _, natK_iff.1 h1, fun o H F ρ w ev' ho ht En hrs hn hx => ?_⟩
      have hops : (Op.operands (.buildSlice t len ps)).toList = ps.toList.map (·.2) := by simp [Op.operands]
      rw [hops] at hx
      have hn0 : H L.length = none := by simpa using hn 0 (by simp)
      obtain ⟨i0, z, g1, g2, g3, g4, g5, g6, _, _⟩ := ti_elem hk hp he
      obtain ⟨q1, q2⟩ := seqB_out (ev := ev') hsq.1
      obtain ⟨q3, q4⟩ := h4 w F ρ _ hx
      rw [List.map_map] at q3 q4
      have hlen : (List.map (ev' ∘ fun x => x.snd) ps.toList).length = len := by simp; simpa using q1
      have hrl : rows.length = len := by rw [h3]; simp; simpa using q1
      have hvs : ps.toList.map (fun p => ev' p.2) = List.map (ev' ∘ fun x => x.snd) ps.toList := rfl
      rw [hvs] at q2
      generalize List.map (ev' ∘ fun x => x.snd) ps.toList = vs at q2 q3 q4 hlen
      have hbase : ∃ cells : Array Value, cells.toList = (vs.flatMap fun v => v.cells.toList) ∧ (Instr.buildSlice t len (ps.map fun (i, x) => (i, ev' x))).run P w = .ok (.slice (some ⟨w.heap.size, 0, none⟩) len len) (w.alloc (.cells cells (tiOf P t).elem)) := by
        rcases Nat.eq_zero_or_pos len with hz | hz
        · have hv : vs = [] := List.eq_nil_of_length_eq_zero (by omega)
          subst hv
          refine ⟨#[], rfl, ?_⟩
          have hps : ps = #[] := by
            have := q1; rw [hz] at this; simp at this; exact this
          subst hps
          subst hz
          simp [Instr.buildSlice, run_underlying g1, sizeOf, typeInfo, g2, newRow, Instr.fill, Array.range_zero']
        · refine ⟨(vs.flatMap fun v => v.cells.toList).toArray, by simp, run_buildSlice w t _ len _ _ i0 z g1 g2 g3 (by rw [g4]; have := hsq.2; omega) (by rw [g4]; exact Nat.ne_of_gt (Nat.mul_pos hz hp)) ?_⟩
          have := Great.fill_whole (s := i0.size) (by omega) vs ((Array.range (len * i0.size)).map (z.cells[· % z.cells.size]!)) (by rw [g4]; exact q3) (by simp [hlen])
          rw [← this]
          congr 1
          rw [← q2]; simp
      obtain ⟨cells, hc, hrun⟩ := hbase
      have hrun' : (execOp ev' o).run P w = .ok (.value (.slice (some ⟨w.heap.size, 0, none⟩) len len)) (w.alloc (.cells cells (tiOf P t).elem)) := by
        simp [execOp, ho, hrun]
      rw [hrun']
      have hcl : cells.size = len * (tiOf P t).esize := by
        have := q4.length
        rw [← hc, flat_len h2, hrl] at this
        simpa using this
      have hlm : len ≤ maxLen := by
        have : len ≤ len * (tiOf P t).esize := Nat.le_mul_of_pos_right _ hp
        have := hsq.2
        unfold maxLen; omega
      have hm : ∀ b, F b → (w.alloc (.cells cells (tiOf P t).elem)).heap[b]? = w.heap[b]? := fun b hb => Below.heap_alloc w _ b (En.fb b hb)
      have how : Ow (w.alloc (.cells cells (tiOf P t).elem)) 0 (tiOf P t).elem (tiOf P t).esize (.slice (some ⟨w.heap.size, 0, none⟩) len len) len cells.toList := Ow.lit w cells len (Nat.zero_le _) hlm hcl
      obtain ⟨S1, K1, E1⟩ := En.new (w' := w.alloc (.cells cells (tiOf P t).elem)) (n := L.length) (o' := .sl (tiOf P t).esize rows) (h := .slice (some ⟨w.heap.size, 0, none⟩) len len) hn0 (grown_alloc w _ none) (fun b hb => by simp [blkOf] at hb; subst hb; simp)
        ⟨cells.toList, by rw [hrl]; exact how, by rw [hc]; exact q4.mono hm fun _ h => h, h2⟩
      exact ⟨F, _, S1, K1, E1, .own (updF_same _ _ _)⟩
    · exact h.elim
  · exact h.elim
/-! ### least and greatest -/
def mmK (mx : Bool) (x y : AV) (K : Eff → AV → Prop) (Q : Prop) : Prop :=
  match x, y with
  | .d (.v (.int k a)), .d (.v (.int _ b)) => match mx with
    | true => K e0 (.d (.v (.int k (if b > a then b else a))))
    | false => K e0 (.d (.v (.int k (if b < a then b else a))))
  | _, _ => Q
theorem mmK_out {mx : Bool} {x y : AV} {K : Eff → AV → Prop} {Q : Prop} {a b : Operand} {ts : Array TypeId} (h : mmK mx x y K Q) : (∃ e r, K e r ∧ Does P (.call { callee := .builtin (if mx then .max else .min), args := #[a, b], argTypes := ts }) ty L n [x, y] e r) ∨ Q := by
  unfold mmK at h
  split at h
  · rename_i k p k' q
    have hops : Op.operands (.call { callee := .builtin (if mx then .max else .min), args := #[a, b], argTypes := ts }) = #[a, b] := by simp [Op.operands, Call.operands]
    cases mx with
    | true => exact .inl ⟨_, _, h, does_lit2 hops fun o w ev ho h1 h2 => by simp [execOp, ho, resolve, invoke, builtin, h1, h2, Builtin.max_, Builtin.max2]⟩
    | false => exact .inl ⟨_, _, h, does_lit2 hops fun o w ev ho h1 h2 => by simp [execOp, ho, resolve, invoke, builtin, h1, h2, Builtin.min_, Builtin.min2]⟩
  · exact .inr h
/-! ### numbers of another kind -/
def kOf (tag : Nat) : Option IntKind :=
  match tag with
  | 20 => some .i8 | 21 => some .i16 | 22 => some .i32 | 23 => some .i64 | 24 => some .u8 | 25 => some .u16 | 26 => some .u32 | 27 => some .u64
  | _ => none
theorem ti_int {t : TypeId} {k : IntKind} (h : kOf (tiOf P t).tag = some k) : P.underlying t = some (.int k) := by
  have hne : (tiOf P t).kind ≠ .non := fun e => by rw [ti_non e] at h; cases h
  obtain ⟨i, d, z, hT, he⟩ := tiOf_known hne
  rw [he] at h
  cases d <;> try (cases h; done)
  rename_i k'
  have : k' = k := by cases k' <;> (simp [tagOf, kOf] at h; exact h)
  subst this
  exact hT.und
def convK (T : TypeId → TI) (src dst : TypeId) (x : AV) (K : Eff → AV → Prop) (Q : Prop) : Prop :=
  match x with
  | .d (.v (.int _ z)) => match kOf (T src).tag, kOf (T dst).tag with
    | some _, some k => K e0 (.d (.v (.int k (k.wrap z))))
    | _, _ => Q
  | _ => Q
theorem convK_out {src dst : TypeId} {x : AV} {K : Eff → AV → Prop} {Q : Prop} {a : Operand} (h : convK (tiOf P) src dst x K Q) : (∃ e r, K e r ∧ Does P (.convert src dst a) ty L n [x] e r) ∨ Q := by
  unfold convK at h
  split at h
  · split at h
    · rename_i k0 k h1 h2
      refine .inl ⟨_, _, h, does_lit1 rfl fun o w ev ho h3 => ?_⟩
      have q1 := ti_int h1
      have q2 := ti_int h2
      simp [execOp, ho, h3, convert, run_underlying q1, run_underlying q2, Conv.intToInt]
    · exact .inr h
  · exact .inr h
/-! ### literals of structs and arrays -/
def placeK (T : TypeId → TI) (ti : TI) (f : Nat) (k : Nat → Nat → Prop) : Prop :=
  match ti.kind with
  | .st => pairK ti.fields f fun off ft => posK (T ft).size (k off (T ft).size)
  | .arr => posK ti.esize (k (f * ti.esize) ti.esize)
  | _ => False
def fldsB (T : TypeId → TI) : List (Nat × Nat) → Bool
  | [] => true
  | (_, ft) :: r => Nat.blt 0 (T ft).size && fldsB T r
def bldK (T : TypeId → TI) (ti : TI) (ev : Operand → AV) : List (Nat × Operand) → List AV → (List AV → Prop) → Prop
  | [], m, k => k m
  | (f, x) :: r, m, k => placeK T ti f fun off size => fAV (ev x) fun y => partsK size y fun ps => lenK ps size <| setsK m off ps fun m' => bldK T ti ev r m' k
def bldDK (T : TypeId → TI) (ti : TI) (ev : Operand → AV) : List (Nat × Operand) → List D → (List D → Prop) → Prop
  | [], m, k => ∃ ds, m = ds ∧ k ds
  | (f, x) :: r, m, k => placeK T ti f fun off size => fAV (ev x) fun y => dataK size y fun ys => match Nat.ble (off + size) ti.size with
    | true => bldDK T ti ev r (sets m off ys) k
    | false => False
def aggK (ti : TI) (p : Prop) : Prop := match ti.kind with | .st => p | .arr => posK ti.esize p | _ => False
theorem aggK_out {ti : TI} {p : Prop} (h : aggK ti p) : (ti.kind = .st ∨ (ti.kind = .arr ∧ 0 < ti.esize)) ∧ p := by
  unfold aggK at h
  split at h
  · rename_i hk; exact ⟨.inl hk, h⟩
  · rename_i hk; exact ⟨.inr ⟨hk, (posK_out h).1⟩, (posK_out h).2⟩
  · exact h.elim
def buildK (T : TypeId → TI) (t : TypeId) (ps : List (Nat × Operand)) (ev : Operand → AV) (K : Eff → AV → Prop) : Prop :=
  nonK (T t) <| aggK (T t) <| match fldsB T (T t).fields with
    | false => False
    | true => match bigB (T t).size with
      | false => mapVK (T t).zero fun m => bldK T (T t) ev ps m fun l => mkAggK l (K e0)
      | true => bldDK T (T t) ev ps ((T t).zero.map .v) fun ds => K e0 (.d (.agg ds))
theorem fold_sets : ∀ (us : List Value) (cells : Array Value) (off i : Nat), (us.zipIdx i).foldl (fun cs (x : Value × Nat) => cs.setIfInBounds (off + x.2) x.1) cells = (sets cells.toList (off + i) us).toArray
  | [], cells, off, i => by simp [sets]
  | u :: us, cells, off, i => by
    rw [List.zipIdx_cons, List.foldl_cons, fold_sets us _ off (i + 1)]
    simp [sets, Nat.add_assoc]
theorem fill_cons {place : Nat → Option (Nat × Nat)} {cells : Array Value} {f off size : Nat} {v : Value} {r : List (Nat × Value)} (h : place f = some (off, size)) (h1 : v.cells.size = size) (h2 : off + size ≤ cells.size) :
    Instr.fill place cells ((f, v) :: r) = Instr.fill place (sets cells.toList off v.cells.toList).toArray r := by
  have hf : v.cells.zipIdx.foldl (fun cs (x : Value × Nat) => cs.setIfInBounds (off + x.2) x.1) cells = (sets cells.toList off v.cells.toList).toArray := by
    have := fold_sets v.cells.toList cells off 0
    rw [Nat.add_zero] at this
    rw [← this, ← Array.foldl_toList]
    simp
  simp only [Instr.fill, h]
  have hc : (v.cells.size ≠ size || decide (off + v.cells.size > cells.size)) = false := by simp [h1]; omega
  rw [if_neg (by rw [hc]; simp)]
  rw [← hf]
theorem bldK_out {T : TypeId → TI} {ti : TI} {place : Nat → Option (Nat × Nat)} (hpl : ∀ f (k : Nat → Nat → Prop), placeK T ti f k → ∃ off size, place f = some (off, size) ∧ 0 < size ∧ k off size) {ev : Operand → AV} {k : List AV → Prop} :
    ∀ {ps : List (Nat × Operand)} {m : List AV}, bldK T ti ev ps m k → ∃ m', k m' ∧ ∀ (w : World) (F : Nat → Prop) (ρ : Nat → Option Value) (ev' : Operand → Value) (cells : Array Value), (∀ p ∈ ps, RA w F ρ (ev p.2) (ev' p.2)) → RAs w F ρ m cells.toList → (∀ v ∈ cells.toList, v.oneCell' = true) →
      ∃ cells', Instr.fill place cells (ps.map fun p => (p.1, ev' p.2)) = some cells' ∧ RAs w F ρ m' cells'.toList ∧ ∀ v ∈ cells'.toList, v.oneCell' = true
  | [], m, h => ⟨m, h, fun w F ρ ev' cells _ hr ho => ⟨cells, rfl, hr, ho⟩⟩
  | (f, x) :: r, m, h => by
    obtain ⟨off, size, h1, hpos, h2⟩ := hpl _ _ h
    obtain ⟨pl, h3, h4⟩ := partsK_out (fAV_iff.1 h2)
    obtain ⟨h5, h6⟩ := lenK_out h3
    have hle := setsK_le h6
    have h7 := setsK_val h6
    obtain ⟨m', hk, hr'⟩ := bldK_out hpl (ps := r) h7
    refine ⟨m', hk, fun w F ρ ev' cells hev hr ho => ?_⟩
    obtain ⟨g1, g2⟩ := h4 w F ρ (ev' x) (hev (f, x) (List.mem_cons_self ..))
    have g3 := g1.length
    have g4 := hr.length
    have hsz : (ev' x).cells.size = size := by simpa using g3.trans h5
    have hb : off + size ≤ cells.size := by
      have : cells.size = m.length := by simpa using g4
      rcases hle with e | e
      · have e0 : pl.length = 0 := by rw [e]; rfl
        omega
      · omega
    obtain ⟨cells', q2, q3, q4⟩ := hr' w F ρ ev' (sets cells.toList off (ev' x).cells.toList).toArray (fun p hp => hev p (List.mem_cons_of_mem _ hp)) (by simpa using hr.sets g1) (fun v hv => (mem_sets (by simpa using hv)).elim (ho v) (g2 v))
    exact ⟨cells', by rw [List.map_cons, fill_cons h1 hsz hb]; exact q2, q3, q4⟩
theorem bldDK_out {T : TypeId → TI} {ti : TI} {place : Nat → Option (Nat × Nat)} (hpl : ∀ f (k : Nat → Nat → Prop), placeK T ti f k → ∃ off size, place f = some (off, size) ∧ 0 < size ∧ k off size) {ev : Operand → AV} {k : List D → Prop} :
    ∀ {ps : List (Nat × Operand)} {m : List D}, bldDK T ti ev ps m k → ∃ ds, k ds ∧ ∀ (w : World) (F : Nat → Prop) (ρ : Nat → Option Value) (ev' : Operand → Value) (cells : Array Value), (∀ p ∈ ps, RA w F ρ (ev p.2) (ev' p.2)) → cells.size = ti.size → RDs w F m cells.toList → ∃ cells', Instr.fill place cells (ps.map fun p => (p.1, ev' p.2)) = some cells' ∧ RDs w F ds cells'.toList
  | [], m, h => by
    obtain ⟨ds, rfl, hk⟩ := h
    exact ⟨m, hk, fun w F ρ ev' cells _ _ hr => ⟨cells, rfl, hr⟩⟩
  | (f, x) :: r, m, h => by
    obtain ⟨off, size, h1, hpos, h2⟩ := hpl _ _ h
    obtain ⟨ys, h3, h4, h5⟩ := dataK_out (fAV_iff.1 h2)
    split at h3
    case h_2 => exact h3.elim
    rename_i htot
    have htot := Nat.le_of_ble_eq_true htot
    obtain ⟨ds, hk, hr⟩ := bldDK_out hpl (ps := r) h3
    refine ⟨ds, hk, fun w F ρ ev' cells hev hc hm => ?_⟩
    have g1 := h5 w F ρ (ev' x) (hev (f, x) (List.mem_cons_self ..))
    have hsz : (ev' x).cells.size = size := by simpa using g1.length.trans h4
    obtain ⟨cells', q1, q2⟩ := hr w F ρ ev' (sets cells.toList off (ev' x).cells.toList).toArray (fun p hp => hev p (List.mem_cons_of_mem _ hp)) (by simp [length_sets, hc]) (by simpa using hm.sets g1)
    exact ⟨cells', by rw [List.map_cons, fill_cons h1 hsz (by rw [hc]; exact htot)]; exact q1, q2⟩
theorem fldsB_out {fs : List Field} (h : fldsB (tiOf P) (fs.map fun f => (f.offset, f.type)) = true) : fs.mapM (fun f => (P.info? f.type).map fun i => (f.offset, i.size)) = some (fs.map fun f => (f.offset, (tiOf P f.type).size)) := by
  induction fs with
  | nil => rfl
  | cons f fs ih =>
    simp only [List.map_cons, fldsB, Bool.and_eq_true, Nat.blt_eq] at h
    obtain ⟨i, d, z, hT, he⟩ := tiOf_known (ti_size_pos h.1)
    have hs : (tiOf P f.type).size = i.size := by rw [he]; cases d <;> rfl
    simp [List.mapM_cons, hT.info, ih h.2, hs]
theorem buildK_out {t : TypeId} {ps : Array (Nat × Operand)} {ev : Operand → AV} {K : Eff → AV → Prop} (h : buildK (tiOf P) t ps.toList ev K) : ∃ e r, K e r ∧ Does P (.build t ps) ty L n ((Op.operands (.build t ps)).toList.map ev) e r := by
  obtain ⟨hne, h⟩ := nonK_out h
  obtain ⟨i, d, z, hT, he⟩ := tiOf_known hne
  have hz : (tiOf P t).zero = z.cells.toList := by rw [he]; cases d <;> rfl
  have hsz : (tiOf P t).size = z.cells.size := by rw [hT.size, he]; cases d <;> rfl
  have hops : (Op.operands (.build t ps)).toList = ps.toList.map (·.2) := by simp [Op.operands]
  rw [hops]
  obtain ⟨hka, h⟩ := aggK_out h
  split at h
  · exact h.elim
  · rename_i hfl
    -- the places, and what is built there
    have hpl : ∃ place : Nat → Option (Nat × Nat), (∀ f (k : Nat → Nat → Prop), placeK (tiOf P) (tiOf P t) f k → ∃ off size, place f = some (off, size) ∧ 0 < size ∧ k off size) ∧
        (∀ parts cells, Instr.fill place z.cells parts = some cells → P.built t parts = some cells) := by
      cases d with
      | struct fs =>
        have hfields : (tiOf P t).fields = fs.toList.map fun f => (f.offset, f.type) := by rw [he]
        rw [hfields] at hfl
        have hm := fldsB_out hfl
        refine ⟨fun f => (fs.toList.map fun f => (f.offset, (tiOf P f.type).size)).toArray[f]?, fun f k hk => ?_, fun parts cells hf => ?_⟩
        · unfold placeK at hk
          split at hk
          · obtain ⟨off, ft, h1, h2⟩ := pairK_out hk
            obtain ⟨h3, h4⟩ := posK_out h2
            rw [hfields, List.getElem?_map] at h1
            obtain ⟨fd, h5, h6⟩ := Option.map_eq_some_iff.1 h1
            simp at h6
            refine ⟨off, (tiOf P ft).size, ?_, h3, h4⟩
            simp at h5
            simp [h5, h6.1, h6.2]
          · rename_i hk'; rw [he] at hk'; cases hk'
          · exact hk.elim
        · unfold Program.built
          simp only [hT.info, hT.und, hT.zero, hm]
          exact hf
      | array m e =>
        have helem : (tiOf P t).elem = e ∧ (tiOf P t).esize = P.cellsOf e := by rw [he]; exact ⟨rfl, rfl⟩
        have hp : 0 < (tiOf P t).esize := by
          rcases hka with q | q
          · rw [he] at q; cases q
          · exact q.2
        obtain ⟨ie, g1, g2⟩ := info_of_cells helem.2.symm hp
        refine ⟨fun f => some (f * ie.size, ie.size), fun f k hk => ?_, fun parts cells hf => ?_⟩
        · unfold placeK at hk
          split at hk
          · rename_i hk'; rw [he] at hk'; cases hk'
          · obtain ⟨h3, h4⟩ := posK_out hk
            exact ⟨_, _, rfl, by omega, by rw [g2]; exact h4⟩
          · exact hk.elim
        · unfold Program.built
          simp only [hT.info, hT.und, hT.zero, g1]
          exact hf
      | _ => exfalso; rw [he] at hka; simp at hka
    obtain ⟨place, hpl, hbuilt⟩ := hpl
    have fin : ∀ {r : AV}, K e0 r → (∀ (w : World) (F : Nat → Prop) (ρ : Nat → Option Value) (ev' : Operand → Value), (∀ p ∈ ps.toList, RA w F ρ (ev p.2) (ev' p.2)) → ∃ cells', Instr.fill place z.cells (ps.toList.map fun p => (p.1, ev' p.2)) = some cells' ∧ RA w F ρ r (.agg cells')) →
        ∃ e r, K e r ∧ Does P (.build t ps) ty L n ((ps.toList.map (·.2)).map ev) e r := by
      intro r hK hr
      refine ⟨_, _, hK, does_val fun o w F ρ ev' ho _ hx => ?_⟩
      rw [hops] at hx
      have hall : ∀ (l : List (Nat × Operand)), RAs w F ρ ((l.map (·.2)).map ev) ((l.map (·.2)).map ev') → ∀ p ∈ l, RA w F ρ (ev p.2) (ev' p.2) := by
        intro l
        induction l with
        | nil => intro _ p hp; simp at hp
        | cons q l ih =>
          intro hx p hp
          cases hx with | cons h1 h2 =>
            rcases List.mem_cons.1 hp with e | e
            · subst e; exact h1
            · exact ih h2 p e
      obtain ⟨cells', h1, h2⟩ := hr w F ρ ev' (hall _ hx)
      refine ⟨.agg cells', ?_, h2⟩
      have hrun := run_build (P := P) w t (ps.map fun (i, x) => (i, ev' x)) cells' (hbuilt _ _ (by simpa using h1))
      simp [execOp, ho, hrun]
    split at h
    · have h := mapVK_out h
      obtain ⟨m', h1, h2⟩ := bldK_out hpl h
      obtain ⟨r, h3, h4⟩ := mkAggK_out h1
      refine fin h3 fun w F ρ ev' hev => ?_
      have hz0 : RAs w F ρ ((tiOf P t).zero.map fun v => .d (.v v)) z.cells.toList := by
        rw [hz]
        have := RAs.ofD (ρ := ρ) (dv_rep (w := w) (F := F) hT.ones)
        rw [List.map_map] at this
        exact this
      obtain ⟨cells', q1, q2, q3⟩ := h2 w F ρ ev' z.cells hev hz0 hT.ones
      exact ⟨cells', q1, by have := h4 w F ρ _ q2 q3; simpa using this⟩
    · obtain ⟨ds, h1, h2⟩ := bldDK_out hpl h
      refine fin h1 fun w F ρ ev' hev => ?_
      obtain ⟨cells', q1, q2⟩ := h2 w F ρ ev' z.cells hev hsz.symm (by rw [hz]; exact dv_rep hT.ones)
      exact ⟨cells', q1, by have := RA.d (ρ := ρ) (RD.agg q2); simpa using this⟩
theorem does_makeFunc {fn : Fn} {first caps : Array Operand} {ev : Operand → AV} : Does P (.makeFunc fn first caps) ty L n ((Op.operands (.makeFunc fn first caps)).toList.map ev) e0 (.fn fn (first.toList.map ev) (caps.toList.map ev)) := does_val fun o w F ρ ev' ho _ hx => by
  have hops : (Op.operands (.makeFunc fn first caps)).toList = first.toList ++ caps.toList := by simp [Op.operands]
  rw [hops, List.map_append, List.map_append] at hx
  have sp : ∀ (xs ys : List AV) (us ts : List Value), us.length = xs.length → RAs w F ρ (xs ++ ys) (us ++ ts) → RAs w F ρ xs us ∧ RAs w F ρ ys ts := by
    intro xs
    induction xs with
    | nil => intro ys us ts h hx; have : us = [] := List.eq_nil_of_length_eq_zero h; subst this; exact ⟨.nil, hx⟩
    | cons x xs ih =>
      intro ys us ts h hx
      cases us with
      | nil => simp at h
      | cons u us =>
        cases hx with | cons h1 h2 =>
          obtain ⟨a, b⟩ := ih ys us ts (by simpa using h) h2
          exact ⟨.cons h1 a, b⟩
  obtain ⟨h1, h2⟩ := sp _ _ _ _ (by simp) hx
  refine ⟨.func fn (first.map ev') (caps.map ev'), by simp [execOp, ho, Instr.makeFunc], ?_⟩
  have := RA.fn (f := fn) h1 h2
  have e1 : ∀ (l : Array Operand), (l.toList.map ev').toArray = l.map ev' := fun l => by apply Array.ext'; simp
  rw [e1, e1] at this
  exact this
end
end Go.Proofs.Ytgidaifoiljgoaa
