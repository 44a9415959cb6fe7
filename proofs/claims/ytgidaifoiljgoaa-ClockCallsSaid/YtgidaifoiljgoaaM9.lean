/- Parts Frame, VcT, VcX, Kp, Kg, Kh, Kq, VcY, Rp of the proof, put together. -/
import Derived.Test.YtgidaifoiljgoaaM8
import Derived.ProofKit
import Derived.OpenShut
import Derived.ShutString
import Derived.ChangeOld
import Derived.SizedLaws
import Derived.Carry
import Derived.Deep.Slices
import Derived.Laws.StructEq
/- From the walk of a law to its statement: the part that is alike for all laws. No program is named here. -/
namespace Go.Proofs.Ytgidaifoiljgoaa
set_option linter.unusedSimpArgs false
set_option linter.unusedVariables false
open Go.ChangeShapes Go.WideShapes Go.ChangeAt Go.RowKit

section
variable {H : Type} {enc : TypeId × Value → H} {P : Program}
theorem trodAll_below (hl : laidOutB P = true) {W W' : World} (hb : Below W.heap.size W W') : ∀ {ts : List TypeId}, (ts.all fun t => P.readableRec t && decide (t < P.types.size)) = true → ∀ {vs : List Value} {ds : List (DataW H)} {ps : List MemPlace},
    DataW.TrodAll enc P W 0 (fun _ => true) true ts vs ds ps → DataW.TrodAll enc P W' 0 (fun b => decide (b < W.heap.size)) true ts vs ds ps := by
  intro ts
  induction ts with
  | nil =>
    intro _ vs ds ps h
    obtain ⟨rfl, rfl, rfl⟩ := trodAll_nil h
    exact trodAll_mk0
  | cons t ts ih =>
    intro hts vs ds ps h
    obtain ⟨v, vs', d, ds', p, q, rfl, rfl, rfl, h0, r0⟩ := trodAll_cons h
    simp only [List.all_cons, Bool.and_eq_true, decide_eq_true_eq] at hts
    have lt0 : ∀ x ∈ p, x.block < W.heap.size := by obtain ⟨m, hm⟩ := h0; exact DataW.trod_lt m _ _ _ hm
    refine trodAll_cons_mk (Below.trod hl hts.1.1 hts.1.2 h0 hb lt0) (ih ?_ r0)
    simpa using hts.2

theorem trodAll_length {w : World} {base : Nat} {spare : Nat → Bool} {held : Bool} : ∀ {ts : List TypeId} {vs : List Value} {ds : List (DataW H)} {ps : List MemPlace}, DataW.TrodAll enc P w base spare held ts vs ds ps → ds.length = ts.length := by
  intro ts
  induction ts with
  | nil =>
    intro vs ds ps h
    obtain ⟨rfl, rfl, rfl⟩ := trodAll_nil h
    rfl
  | cons t ts ih =>
    intro vs ds ps h
    obtain ⟨v, vs', d, ds', p, q, rfl, rfl, rfl, h0, r0⟩ := trodAll_cons h
    simp [ih r0]

/-- What the walk of a law must show: from whatever arguments that read as data, true comes back, and nothing that was there has turned. -/
def LawWalk (H : Type) (enc : TypeId × Value → H) (P : Program) (F : FuncId) (fn : Func) : Prop :=
  ∀ (W : World) (base : Nat) (args : Array Value) (ds : List (DataW H)) (p : List MemPlace),
    (∀ (j : Nat) t v, fn.params[j]? = some t → args[j]? = some v → Value.okWide P W .any base t v) →
    DataW.TrodAll enc P W 0 (fun _ => true) true fn.params.toList args.toList ds p →
    (DataW.weightsEach P fn.params.toList ds).all (· ≤ reachBytes) = true →
    Calls P F args W fun e W' => e = .returned (.bool true) ∧ Below W.heap.size W W'

theorem lift_law {C : Checked} {os : Os} {F : FuncId} {fn : Func} {s : ChangeSpec} {bT : TypeId} (laid : laidOutB C.prog = true) (own : ownKnob C.prog.godebug = none) (started : os.Started) (noInit : C.prog.inits.idxOf? F = none)
    (hfn : C.prog.funcs[F]? = some fn) (hts : (fn.params.toList.all fun t => C.prog.readableRec t && decide (t < C.prog.types.size)) = true) (hbT : C.prog.underlying bT = some .bool) (hres : fn.resultTypes = #[bT])
    (hvars : s.vars = []) (hs : ∀ ds : List (DataW H), ds.length = fn.params.toList.length → s.fn H ds = { results := [.lit (.bool true)], args := ds })
    (witness : ∃ (w : World) (tape : Tape) (i : Input), w.os = os ∧ (w.forCall tape i).Shaped C.prog ∧ i.vars = [] ∧ Input.okWide C.prog (w.forCall tape i) .any w.heap.size F i ∧
      s.pre6 enc C.prog fn [] false (w.forCall tape i).memory i.args ∧ Assume.holds {} C.prog (lone (Frame.enter C.prog F i.args .normal) [] (w.forCall tape i)))
    (walk : LawWalk H enc C.prog F fn) :
    ReturnsInHanded {} C os F .any (s.pre6 enc C.prog fn [] false) (s.post enc C.prog fn false true false false) := by
  refine returnsInHanded_of_change_sized own started noInit hfn witness ?_
  intro W base args ds gs before hval hW _ hsz _
  have hW' := hW
  obtain ⟨p, q, hA, hV, rfl, hfz, hnd⟩ := hW
  rw [hvars] at hV
  obtain ⟨rfl, rfl⟩ := trodVars_none hV
  have hvt : s.plain.varTypes C.prog = [] := by simp [ChangeSpec.plain, DataSpec.varTypes, hvars]
  rw [hvt, List.append_nil, List.append_nil] at hsz
  refine (walk W base args ds p hval hA hsz).mono fun e W' ⟨he, bel⟩ => ?_
  subst he
  have hd := trodAll_length hA
  have hsp := hs ds hd
  refine ⟨_, rfl, ds, [], p ++ [], [], p, [], hW', ?_, ?_, ?_, bel.frame _, fun h => by cases h⟩
  · rw [List.append_nil, hsp, hres]
    exact trodAll_mk1 (shut_bool hbT _)
  · rw [List.append_nil, hsp]
    exact trodAll_below laid bel hts hA
  · rw [List.append_nil, hsp, hvars]
    rfl
end

/-! ### arguments -/
section
variable {H : Type} {enc : TypeId × Value → H} {P : Program} {w : World}
theorem u8_of_wf {z : Int} (h : (Lit.int .u8 z).wf = true) : ((UInt8.ofNat z.toNat).toNat : Int) = z := by
  have hb : 0 ≤ z ∧ z ≤ 255 := by
    have := bounds_u8 h
    omega
  simp [UInt8.toNat_ofNat']
  omega
/-- A slice of bytes that came in. -/
theorem open_bytes {t e : TypeId} {base : Nat} {v : Value} {d : DataW H} {p : List MemPlace} (ht : P.underlying t = some (.slice e)) (he : P.underlying e = some (.int .u8)) (hce : P.cellsOf e = 1) (hbe : P.bytesOf e = 1)
    (hok : Value.okWide P w .any base t v) (h : DataW.Trod enc P w 0 (fun _ => true) true t v d p) (hwt : (d.weights P t).all (· ≤ reachBytes) = true) :
    ∃ A n c l, v = .slice A n c ∧ RdB w w.heap.size A n l ∧ n ≤ c ∧ c ≤ 140737488351232 := by
  obtain ⟨a0, len, cap, rfl⟩ := okWide_slice ht hok
  have lt0 : ∀ x ∈ p, x.block < w.heap.size := by obtain ⟨m, hm⟩ := h; exact DataW.trod_lt m _ _ _ hm
  obtain ⟨fuel, hf⟩ := h
  rcases open_ints ht he hce hf with ⟨hcs, _⟩ | ⟨x, l', c', zs, hcs, _, hl, hm, hz, hx, hcell, hwz⟩
  · simp [Value.cells] at hcs
    obtain ⟨rfl, rfl, rfl⟩ := hcs
    exact ⟨none, 0, 0, [], rfl, Rd.nil, by omega, by omega⟩
  · simp [Value.cells] at hcs
    obtain ⟨rfl, rfl, rfl⟩ := hcs
    simp only [if_true] at hz
    have hcap : cap ≤ 140737488351232 := by
      have hd : d = .slice (lits .u8 (zs.take len)) (lits .u8 (zs.drop len)) := congrArg Prod.fst hx
      rw [hd] at hwt
      have h1 := List.all_eq_true.1 hwt (((lits (H := H) .u8 (zs.take len)).length + (lits (H := H) .u8 (zs.drop len)).length) * P.bytesOf e) (by simp [DataW.weights, ht])
      simp only [lits, List.length_map, List.length_take, List.length_drop, hbe, decide_eq_true_eq, reachBytes] at h1
      omega
    refine ⟨some x, len, cap, (zs.take len).map (fun z => UInt8.ofNat z.toNat), rfl, ⟨by simp; omega, fun hn => ?_⟩, hl, hcap⟩
    obtain ⟨b, off, spot⟩ := x
    have hc0 := hcell 0 (by omega)
    have hspot : spot = none := by simpa [Addr.add] using World.cell?_spot hc0
    subst hspot
    refine ⟨b, off, rfl, World.block_lt_of_cell? w _ hc0 |> (by simpa [Addr.add_lit] using ·), fun j hj => ?_⟩
    have hj' : j < len := by simp at hj; omega
    have hcj := hcell j (by omega)
    rw [Addr.add_lit] at hcj
    rw [hcj]
    have hjz : j < zs.length := by omega
    simp only [List.getElem_map, List.getElem_take, bv, Option.some.injEq, Value.int.injEq, true_and]
    rw [u8_of_wf (hwz _ (List.getElem_mem _))]
    simp [List.getD, List.getElem?_eq_getElem hjz]
end
end Go.Proofs.Ytgidaifoiljgoaa
/- The arguments of a law, as data; from a law's contract to its statement. No program is named here. -/
namespace Go.Proofs.Ytgidaifoiljgoaa
set_option linter.unusedSimpArgs false
set_option linter.unusedVariables false
open Go.ChangeShapes Go.WideShapes Go.ChangeAt Go.RowKit
def tileB (P : Program) : List Field → Nat → Nat → Bool
  | [], o, tot => Nat.beq o tot
  | f :: r, o, tot => Nat.beq f.offset o && tileB P r (o + P.cellsOf f.type) tot
/-- Types of plain data. -/
def supB (P : Program) : Nat → TypeId → Bool
  | 0, _ => false
  | m + 1, t => match P.underlying t with
    | some .bool => true
    | some (.int _) => true
    | some .string => true
    | some (.slice e) => supB P m e && Nat.blt 0 (P.cellsOf e)
    | some (.struct fs) => tileB P fs.toList 0 (P.cellsOf t) && fs.toList.all fun f => supB P m f.type
    | some (.array n e) => supB P m e && Nat.beq (n * P.cellsOf e) (P.cellsOf t)
    | _ => false
def TyAll (p : TypeId → List D → Prop) : List TypeId → List (List D) → Prop
  | [], dss => dss = []
  | t :: ts, dss => ∃ d r, dss = d :: r ∧ p t d ∧ TyAll p ts r
/-- What cells of a type of plain data look like. -/
def TyB (p : TypeId → List D → Prop) (P : Program) (t : TypeId) (ds : List D) : Prop :=
  match P.underlying t with
    | some .bool => ∃ b, ds = [.v (.bool b)]
    | some (.int k) => ∃ z, ds = [.v (.int k z)] ∧ (Lit.int k z).wf = true
    | some .string => ∃ s, ds = [.v (.string s)] ∧ s.size ≤ reachBytes
    | some (.slice e) => ∃ rows, ds = [.sl (P.cellsOf e) rows] ∧ (∀ r ∈ rows, p e r) ∧ rows.length * P.bytesOf e ≤ reachBytes
    | some (.struct fs) => ∃ dss, ds = dss.flatten ∧ TyAll p (fs.toList.map (·.type)) dss
    | some (.array n e) => ∃ dss : List (List D), ds = dss.flatten ∧ dss.length = n ∧ ∀ d ∈ dss, p e d
    | _ => False
def Ty (P : Program) : Nat → TypeId → List D → Prop
  | 0 => fun _ _ => False
  | m + 1 => TyB (Ty P m) P
theorem Ty.of {P : Program} {m : Nat} {t : TypeId} {ds : List D} {d : TypeDesc} (hu : P.underlying t = some d) (h : P.underlying t = some d → TyB (Ty P m) P t ds) : Ty P (m + 1) t ds := h hu
section
variable {H : Type} {enc : TypeId × Value → H} {P : Program} {w : World} {base : Nat}
theorem mapM_get {α β : Type} {f : α → Option β} : ∀ {l : List α} {ys : List β}, l.mapM f = some ys → ys.length = l.length ∧ ∀ (i : Nat) (x : α), l[i]? = some x → ∃ y, ys[i]? = some y ∧ f x = some y
  | [], ys, h => by simp at h; subst h; exact ⟨rfl, fun i x h => by simp at h⟩
  | a :: l, ys, h => by
    simp only [List.mapM_cons, Option.bind_eq_bind, Option.pure_def, Option.bind_eq_some_iff, Option.some.injEq] at h
    obtain ⟨y, h1, zs, h2, rfl⟩ := h
    obtain ⟨h3, h4⟩ := mapM_get h2
    refine ⟨by simp [h3], fun i x hx => ?_⟩
    cases i with
    | zero => simp at hx; subst hx; exact ⟨y, rfl, h1⟩
    | succ i => simpa using h4 i x (by simpa using hx)
def Fall (w : World) (b : Nat) : Prop := b < w.heap.size
theorem weightsAll_mem {e : TypeId} : ∀ {ds : List (DataW H)} {d : DataW H}, d ∈ ds → ∀ x ∈ d.weights P e, x ∈ DataW.weightsAll P e ds
  | [], _, h, _, _ => by simp at h
  | a :: r, d, h, x, hx => by
    rw [DataW.weightsAll]
    rcases List.mem_cons.1 h with e | e
    · subst e; exact List.mem_append_left _ hx
    · exact List.mem_append_right _ (weightsAll_mem e x hx)
theorem weightsEach_mem : ∀ {ts : List TypeId} {ds : List (DataW H)} {i : Nat} {t : TypeId} {d : DataW H}, ts[i]? = some t → ds[i]? = some d → ∀ x ∈ d.weights P t, x ∈ DataW.weightsEach P ts ds
  | [], _, _, _, _, h, _, _, _ => by simp at h
  | _ :: _, [], _, _, _, _, h, _, _ => by simp at h
  | t0 :: ts, d0 :: ds, 0, t, d, h1, h2, x, hx => by
    simp at h1 h2; subst h1 h2
    rw [DataW.weightsEach]; exact List.mem_append_left _ hx
  | t0 :: ts, d0 :: ds, i + 1, t, d, h1, h2, x, hx => by
    rw [DataW.weightsEach]; exact List.mem_append_right _ (weightsEach_mem (by simpa using h1) (by simpa using h2) x hx)
theorem tile_out {p : TypeId → List D → Prop} {F : Nat → Prop} : ∀ {fs : List Field} {o : Nat} {cs : List Value}, tileB P fs o cs.length = true →
    (∀ f ∈ fs, ∃ ds, RDs w F ds ((cs.drop f.offset).take (P.cellsOf f.type)) ∧ p f.type ds) → ∃ dss, RDs w F dss.flatten (cs.drop o) ∧ TyAll p (fs.map (·.type)) dss
  | [], o, cs, h, _ => by
    have := Nat.eq_of_beq_eq_true h
    subst this
    exact ⟨[], by simpa using RDs.nil, rfl⟩
  | f :: r, o, cs, h, hf => by
    simp only [tileB, Bool.and_eq_true] at h
    have := Nat.eq_of_beq_eq_true h.1
    subst this
    obtain ⟨ds, h1, h2⟩ := hf f (List.mem_cons_self ..)
    obtain ⟨dss, h3, h4⟩ := tile_out h.2 fun g hg => hf g (List.mem_cons_of_mem _ hg)
    refine ⟨ds :: dss, ?_, ds, dss, rfl, h2, h4⟩
    rw [List.flatten_cons]
    have := h1.app h3
    rw [← List.drop_drop, List.take_append_drop] at this
    exact this
theorem tile_arr {p : List D → Prop} {F : Nat → Prop} {s : Nat} : ∀ {n : Nat} {cs : List Value}, cs.length = n * s → (∀ i, i < n → ∃ ds, RDs w F ds ((cs.drop (i * s)).take s) ∧ p ds) → ∃ dss : List (List D), RDs w F dss.flatten cs ∧ dss.length = n ∧ ∀ d ∈ dss, p d
  | 0, cs, hl, _ => by
    have : cs = [] := List.eq_nil_of_length_eq_zero (by simpa using hl)
    subst this
    exact ⟨[], .nil, rfl, by simp⟩
  | n + 1, cs, hl, h => by
    obtain ⟨ds, h1, h2⟩ := h 0 (by omega)
    have hl' : (cs.drop s).length = n * s := by rw [List.length_drop, hl, Nat.add_mul]; omega
    obtain ⟨dss, h3, h4, h5⟩ := tile_arr hl' fun i hi => by
      obtain ⟨ds, h1, h2⟩ := h (i + 1) (by omega)
      exact ⟨ds, by rw [List.drop_drop, show s + i * s = (i + 1) * s by rw [Nat.add_mul]; omega]; exact h1, h2⟩
    refine ⟨ds :: dss, ?_, by simp [h4], fun d hd => (List.mem_cons.1 hd).elim (fun e => e ▸ h2) (h5 d)⟩
    rw [List.flatten_cons]
    have := h1.app h3
    simp only [Nat.zero_mul, List.drop_zero] at this
    rw [List.take_append_drop] at this
    exact this
theorem cells?_get {a : Addr} {n : Nat} {cs : List Value} (h : w.cells? 0 a n = some cs) : cs.length = n ∧ ∀ j (hj : j < cs.length), w.cell? (a.add j) = some cs[j] := by
  unfold World.cells? at h
  simp only [Nat.zero_le, if_true] at h
  obtain ⟨h1, h2⟩ := mapM_get h
  simp at h1
  refine ⟨h1, fun j hj => ?_⟩
  obtain ⟨y, h3, h4⟩ := h2 j j (by rw [List.getElem?_range (by omega)])
  rw [List.getElem?_eq_getElem hj] at h3
  injection h3 with h3
  rw [h3]; exact h4
/-- **Cells that read as plain data.** -/
theorem trod_ty : ∀ (m : Nat) (t : TypeId) (fuel : Nat) (cs : List Value) (d : DataW H) (ps : List MemPlace), supB P m t = true → DataW.trod enc P w 0 (fun _ => true) true fuel t cs = some (d, ps) → (∀ x ∈ d.weights P t, x ≤ reachBytes) →
    ∃ ds, RDs w (Fall w) ds cs ∧ Ty P m t ds
  | 0, t, _, _, _, _, hs, _, _ => by simp [supB] at hs
  | m + 1, t, 0, _, _, _, _, h, _ => by simp [DataW.trod] at h
  | m + 1, t, fuel + 1, cs, d, ps, hs, h, hw => by
    rw [supB] at hs
    cases hu : P.underlying t with
    | none => rw [hu] at hs; cases hs
    | some dsc =>
      rw [hu] at hs
      cases dsc <;> try (simp at hs; done)
      case bool =>
        unfold DataW.trod at h
        simp only [hu] at h
        split at h <;> try (simp at *; done)
        rename_i b _
        exact ⟨[.v (.bool b)], .cons (.v _) rfl .nil, by show TyB _ P t _; unfold TyB; rw [hu]; exact ⟨b, rfl⟩⟩
      case int k =>
        unfold DataW.trod at h
        simp only [hu] at h
        split at h <;> try (simp at *; done)
        rename_i k' k'' n e
        injection e with e; injection e with e; subst e
        split at h
        · rename_i hc
          obtain ⟨rfl, hwf⟩ := hc
          exact ⟨[.v (.int _ n)], .cons (.v _) rfl .nil, by show TyB _ P t _; unfold TyB; rw [hu]; exact ⟨n, rfl, hwf⟩⟩
        · cases h
      case string =>
        unfold DataW.trod at h
        simp only [hu] at h
        split at h <;> try (simp at *; done)
        rename_i s _
        split at h
        · injection h with h; injection h with h1 h2; subst h1
          refine ⟨[.v (.string s)], .cons (.v _) rfl .nil, by show TyB _ P t _; unfold TyB; rw [hu]; exact ⟨s, rfl, hw s.size (by simp [DataW.weights])⟩⟩
        · cases h
      case slice e =>
        simp only [Bool.and_eq_true, Nat.blt_eq] at hs
        unfold DataW.trod at h
        simp only [hu] at h
        split at h <;> try (simp at *; done)
        · exact ⟨[.sl (P.cellsOf e) []], .cons (.sl rfl (by simp) (Nat.le_refl _) (by simp [maxLen]) .nil (fun h => absurd h (by simp))) rfl .nil, by show TyB _ P t _; unfold TyB; rw [hu]; exact ⟨[], rfl, by simp, by simp⟩⟩
        · rename_i e' a len cap he
          injection he with he; injection he with he; subst he
          split at h
          · rename_i hc
            simp only [Option.bind_eq_some_iff, Option.map_eq_some_iff, if_true] at h
            obtain ⟨elems, h1, rest, h2, h3⟩ := h
            injection h3 with h3 h4
            subst h3
            obtain ⟨g1, g2⟩ := mapM_get h1
            simp at g1
            have hel : ∀ i, i < len → ∃ r, RDs w (Fall w) r (((List.range (P.cellsOf e)).map fun j => (w.cell? (a.add (i * P.cellsOf e + j))).getD undef)) ∧ Ty P m e r ∧ r.length = P.cellsOf e ∧ ∀ j, j < P.cellsOf e → (w.cell? (a.add (i * P.cellsOf e + j))).isSome = true := by
              intro i hi
              obtain ⟨y, q1, q2⟩ := g2 i i (by rw [List.getElem?_range hi])
              simp only [Option.bind_eq_some_iff] at q2
              obtain ⟨cs', q3, q4⟩ := q2
              obtain ⟨q5, q6⟩ := cells?_get q3
              have hcell : ∀ j (hj : j < cs'.length), w.cell? (a.add (i * P.cellsOf e + j)) = some cs'[j] := fun j hj => by
                rw [← q6 j hj]
                congr 1
                obtain ⟨b, off, sp⟩ := a
                unfold Addr.add
                split <;> split <;> split <;> simp_all <;> omega
              obtain ⟨r, q7, q8⟩ := trod_ty m e fuel cs' y.1 y.2 hs.1 q4 (fun x hx => hw x (by
                simp only [DataW.weights, hu]
                exact List.mem_cons_of_mem _ (List.mem_append_left _ (weightsAll_mem (List.mem_map.2 ⟨y, List.mem_of_getElem? q1, rfl⟩) x hx))))
              have hcs : ((List.range (P.cellsOf e)).map fun j => (w.cell? (a.add (i * P.cellsOf e + j))).getD undef) = cs' := by
                apply List.ext_getElem (by simp [q5])
                intro j h1 h2
                simp [hcell j h2]
              exact ⟨r, by rw [hcs]; exact q7, q8, by rw [← q5]; exact q7.length.symm, fun j hj => by rw [hcell j (by omega)]; rfl⟩
            have hcsl : ((List.range (len * P.cellsOf e)).map fun j => (w.cell? (a.add j)).getD undef).length = len * P.cellsOf e := by simp
            obtain ⟨dss, q1, q2, q3⟩ := tile_arr (w := w) (F := Fall w) (p := fun d => Ty P m e d ∧ d.length = P.cellsOf e) hcsl fun i hi => by
              obtain ⟨r, q1, q2, q3, q4⟩ := hel i hi
              refine ⟨r, ?_, q2, q3⟩
              have hmul : i * P.cellsOf e + P.cellsOf e ≤ len * P.cellsOf e := by rw [← Nat.succ_mul]; exact Nat.mul_le_mul_right _ hi
              have : (((List.range (len * P.cellsOf e)).map fun j => (w.cell? (a.add j)).getD undef).drop (i * P.cellsOf e)).take (P.cellsOf e) = ((List.range (P.cellsOf e)).map fun j => (w.cell? (a.add (i * P.cellsOf e + j))).getD undef) := by
                apply List.ext_getElem (by simp; omega)
                intro j h1 h2
                simp
              rw [this]; exact q1
            have hall : ∀ j, j < len * P.cellsOf e → (w.cell? (a.add j)).isSome = true := fun j hj => by
              have hd := Nat.div_add_mod j (P.cellsOf e)
              have hi : j / P.cellsOf e < len := (Nat.div_lt_iff_lt_mul hs.2).2 hj
              obtain ⟨_, _, _, _, q4⟩ := hel _ hi
              have := q4 (j % P.cellsOf e) (Nat.mod_lt _ hs.2)
              rwa [show j / P.cellsOf e * P.cellsOf e + j % P.cellsOf e = j by rw [Nat.mul_comm]; omega] at this
            have hbound : dss.length * P.bytesOf e ≤ reachBytes := by
              rw [q2]
              have := hw ((elems.map (·.1)).length * P.bytesOf e + (rest.map (·.1)).length * P.bytesOf e) (by simp [DataW.weights, hu, Nat.add_mul])
              simp only [List.length_map, g1] at this
              omega
            refine ⟨[.sl (P.cellsOf e) dss], .cons (.sl q2 (fun r hr => (q3 r hr).2) hc.2.1 hc.2.2 q1 fun hp => ?_) rfl .nil, by show TyB _ P t _; unfold TyB; rw [hu]; refine ⟨dss, rfl, fun r hr => (q3 r hr).1, ?_⟩; exact hbound⟩
            · obtain ⟨b, off, sp⟩ := a
              have h0 := hall 0 (Nat.mul_pos hp hs.2)
              obtain ⟨u, hu0⟩ := Option.isSome_iff_exists.1 h0
              have hsp : sp = none := by simpa [Addr.add] using World.cell?_spot hu0
              subst hsp
              refine ⟨b, off, rfl, ?_, fun j hj => ?_⟩
              · rw [Addr.add_lit] at hu0
                exact World.block_lt_of_cell? w _ hu0
              · rw [hcsl] at hj
                have := hall j hj
                rw [Addr.add_lit] at this
                obtain ⟨u, hu⟩ := Option.isSome_iff_exists.1 this
                simp [Addr.add_lit, hu]
          · cases h
      case struct fs =>
        simp only [Bool.and_eq_true, List.all_eq_true] at hs
        unfold DataW.trod at h
        simp only [hu] at h
        split at h
        · rename_i hlen
          simp only [Option.map_eq_some_iff] at h
          obtain ⟨xs, h1, h2⟩ := h
          injection h2 with h2 h3
          subst h2
          obtain ⟨g1, g2⟩ := mapM_get h1
          obtain ⟨dss, q1, q2⟩ := tile_out (w := w) (F := Fall w) (P := P) (p := Ty P m) (cs := cs) (by rw [hlen]; exact hs.1) fun f hf => by
            obtain ⟨i, hi, rfl⟩ := List.getElem_of_mem hf
            obtain ⟨y, q1, q2⟩ := g2 i _ (List.getElem?_eq_getElem hi)
            exact trod_ty m _ fuel _ y.1 y.2 (hs.2 _ hf) q2 fun x hx => hw x (by
              simp only [DataW.weights, hu]
              exact weightsEach_mem (i := i) (t := fs.toList[i].type) (by rw [List.getElem?_map, List.getElem?_eq_getElem hi]; rfl) (by rw [List.getElem?_map, q1]; rfl) x hx)
          exact ⟨dss.flatten, by simpa using q1, by show TyB _ P t _; unfold TyB; rw [hu]; exact ⟨dss, rfl, q2⟩⟩
        · cases h
      case array n e =>
        simp only [Bool.and_eq_true] at hs
        unfold DataW.trod at h
        simp only [hu] at h
        split at h
        · rename_i hlen
          simp only [Option.map_eq_some_iff] at h
          obtain ⟨xs, h1, h2⟩ := h
          injection h2 with h2 h3
          subst h2
          obtain ⟨g1, g2⟩ := mapM_get h1
          obtain ⟨dss, q1, q2, q3⟩ := tile_arr (w := w) (F := Fall w) (p := Ty P m e) (n := n) (s := P.cellsOf e) (cs := cs) (by rw [hlen]; exact (Nat.eq_of_beq_eq_true hs.2).symm) fun i hi => by
            obtain ⟨y, q1, q2⟩ := g2 i i (by rw [List.getElem?_range hi])
            exact trod_ty m _ fuel _ y.1 y.2 hs.1 q2 fun x hx => hw x (by
              simp only [DataW.weights, hu]
              exact weightsAll_mem (List.mem_map.2 ⟨y, List.mem_of_getElem? q1, rfl⟩) x hx)
          exact ⟨dss.flatten, q1, by show TyB _ P t _; unfold TyB; rw [hu]; exact ⟨dss, rfl, q2, q3⟩⟩
        · cases h
/-- A law's argument, as data. -/
theorem arg_ty {m : Nat} {t : TypeId} {v : Value} {d : DataW H} {ps : List MemPlace} (hs : supB P m t = true) (hok : Value.okWide P w .any base t v) (h : DataW.Trod enc P w 0 (fun _ => true) true t v d ps) (hw : ∀ x ∈ d.weights P t, x ≤ reachBytes) :
    ∃ ds, Ty P m t ds ∧ ((∃ x, ds = [x] ∧ RD w (Fall w) x v) ∨ RD w (Fall w) (.agg ds) v) := by
  obtain ⟨fuel, hf⟩ := h
  obtain ⟨ds, h1, h2⟩ := trod_ty m t fuel _ d ps hs hf hw
  refine ⟨ds, h2, ?_⟩
  cases m with
  | zero => simp [supB] at hs
  | succ m =>
    rw [supB] at hs
    have one : v.cells.toList = [v] → ∃ x, ds = [x] ∧ RD w (Fall w) x v := fun e => by
      rw [e] at h1
      cases h1 with | cons h1 _ hr => cases hr; exact ⟨_, rfl, h1⟩
    have agg : (∃ cs, v = .agg cs) → RD w (Fall w) (.agg ds) v := fun ⟨cs, e⟩ => by
      subst e
      simpa [Value.cells] using RD.agg h1
    cases hu : P.underlying t with
    | none => rw [hu] at hs; cases hs
    | some dsc =>
      rw [hu] at hs
      cases dsc <;> try (simp at hs; done)
      · obtain ⟨b, rfl⟩ := okWide_bool hu hok; exact .inl (one rfl)
      · obtain ⟨b, rfl⟩ := okWide_int hu hok; exact .inl (one rfl)
      · obtain ⟨b, rfl⟩ := okWide_string hu hok; exact .inl (one rfl)
      · obtain ⟨a, l, c, rfl⟩ := okWide_slice hu hok; exact .inl (one rfl)
      · unfold Value.okWide at hok
        rw [hu] at hok
        obtain ⟨cs, e, _⟩ := hok
        exact .inr (agg ⟨cs, e⟩)
      · unfold Value.okWide at hok
        rw [hu] at hok
        obtain ⟨cs, e, _⟩ := hok
        exact .inr (agg ⟨cs, e⟩)
/-- What an argument of a type looks like. -/
def TyV (P : Program) (t : TypeId) (x : D) : Prop :=
  match P.underlying t with
  | some (.struct _) => ∃ ds, x = .agg ds ∧ Ty P 9 t ds
  | some (.array _ _) => ∃ ds, x = .agg ds ∧ Ty P 9 t ds
  | _ => Ty P 9 t [x]
def ArgsTy (P : Program) : List TypeId → List AV → Prop
  | [], as => as = []
  | t :: ts, as => ∃ x r, as = .d x :: r ∧ TyV P t x ∧ ArgsTy P ts r
theorem arg_tyV {t : TypeId} {v : Value} {d : DataW H} {ps : List MemPlace} (hs : supB P 9 t = true) (hok : Value.okWide P w .any base t v) (h : DataW.Trod enc P w 0 (fun _ => true) true t v d ps) (hw : ∀ x ∈ d.weights P t, x ≤ reachBytes) :
    ∃ x, TyV P t x ∧ RD w (Fall w) x v := by
  obtain ⟨fuel, hf⟩ := h
  obtain ⟨ds, h1, h2⟩ := trod_ty 9 t fuel _ d ps hs hf hw
  have hs0 := hs
  rw [supB] at hs
  have one : v.cells.toList = [v] → ∃ x, ds = [x] ∧ RD w (Fall w) x v := fun e => by
    rw [e] at h1
    cases h1 with | cons h1 _ hr => cases hr; exact ⟨_, rfl, h1⟩
  cases hu : P.underlying t with
  | none => rw [hu] at hs; cases hs
  | some dsc =>
    rw [hu] at hs
    have fin : v.cells.toList = [v] → (∀ x, Ty P 9 t [x] → TyV P t x) → ∃ x, TyV P t x ∧ RD w (Fall w) x v := fun e hx => by
      obtain ⟨x, rfl, hr⟩ := one e
      exact ⟨x, hx x h2, hr⟩
    have agg : (∃ cs, v = .agg cs) → (∀ ds, Ty P 9 t ds → TyV P t (.agg ds)) → ∃ x, TyV P t x ∧ RD w (Fall w) x v := fun ⟨cs, e⟩ hx => by
      subst e
      exact ⟨.agg ds, hx ds h2, by simpa [Value.cells] using RD.agg h1⟩
    cases dsc <;> try (simp at hs; done)
    · obtain ⟨b, rfl⟩ := okWide_bool hu hok; exact fin rfl fun x hx => by unfold TyV; rw [hu]; exact hx
    · obtain ⟨b, rfl⟩ := okWide_int hu hok; exact fin rfl fun x hx => by unfold TyV; rw [hu]; exact hx
    · obtain ⟨b, rfl⟩ := okWide_string hu hok; exact fin rfl fun x hx => by unfold TyV; rw [hu]; exact hx
    · obtain ⟨a, l, c, rfl⟩ := okWide_slice hu hok; exact fin rfl fun x hx => by unfold TyV; rw [hu]; exact hx
    · unfold Value.okWide at hok
      rw [hu] at hok
      obtain ⟨cs, e, _⟩ := hok
      exact agg ⟨cs, e⟩ fun ds hd => by unfold TyV; rw [hu]; exact ⟨ds, rfl, hd⟩
    · unfold Value.okWide at hok
      rw [hu] at hok
      obtain ⟨cs, e, _⟩ := hok
      exact agg ⟨cs, e⟩ fun ds hd => by unfold TyV; rw [hu]; exact ⟨ds, rfl, hd⟩
theorem args_ty : ∀ {ts : List TypeId} {vs : List Value} {ds : List (DataW H)} {ps : List MemPlace}, (ts.all fun t => supB P 9 t) = true → (∀ (j : Nat) (t : TypeId) (v : Value), ts[j]? = some t → vs[j]? = some v → Value.okWide P w .any base t v) → DataW.TrodAll enc P w 0 (fun _ => true) true ts vs ds ps → (∀ x ∈ DataW.weightsEach P ts ds, x ≤ reachBytes) →
    ∃ as, ArgsTy P ts as ∧ RAs w (Fall w) (fun _ => none) as vs
  | [], vs, ds, ps, _, _, h, _ => by
    obtain ⟨rfl, rfl, rfl⟩ := trodAll_nil h
    exact ⟨[], rfl, .nil⟩
  | t :: ts, vs, ds, ps, hs, hok, h, hw => by
    obtain ⟨v, vs', d, ds', p, q, rfl, rfl, rfl, h0, r0⟩ := trodAll_cons h
    simp only [List.all_cons, Bool.and_eq_true] at hs
    obtain ⟨x, h1, h2⟩ := arg_tyV hs.1 (hok 0 t v rfl rfl) h0 fun y hy => hw y (by rw [DataW.weightsEach]; exact List.mem_append_left _ hy)
    obtain ⟨as, h3, h4⟩ := args_ty hs.2 (fun j t v h1 h2 => hok (j + 1) t v (by simpa using h1) (by simpa using h2)) r0 fun y hy => hw y (by rw [DataW.weightsEach]; exact List.mem_append_right _ hy)
    exact ⟨.d x :: as, ⟨x, as, rfl, h1, h3⟩, .cons (.d h2) h4⟩
/-- **From a law's contract to what its statement asks of the walk.** -/
theorem lawWalk_of_sat {F : FuncId} {fn : Func} (hs : (fn.params.toList.all fun t => supB P 9 t) = true) (h : ∀ as, ArgsTy P fn.params.toList as → Sat P F as [] (.d (.v (.bool true))) []) : LawWalk H enc P F fn := by
  intro W base args ds p hok hT hw
  obtain ⟨as, h1, h2⟩ := args_ty hs (fun j t v h1 h2 => hok j t v (by simpa using h1) (by simpa using h2)) hT fun x hx => by
    have := List.all_eq_true.1 hw x hx
    simpa using this
  have En : Env (Fall W) (fun _ => none) (hp []) W := ⟨fun b h => h, fun i _ => rfl, fun i o h => by simp [hp] at h, fun i j o o' _ _ _ h => by simp [hp] at h⟩
  have := h as h1 (Fall W) (fun _ => none) W args.toList En h2
  have e : args.toList.toArray = args := by simp
  rw [e] at this
  refine this.mono ?_
  rintro en W' ⟨v, rfl, F', ρ', S, _, _, R⟩
  have := R.v_out
  subst this
  exact ⟨rfl, S.os, S.tape, S.output, S.size, fun b hb => S.unch b hb fun ⟨i, o, hh, h, _⟩ => by simp [hp] at h⟩
end
end Go.Proofs.Ytgidaifoiljgoaa
/- What arguments of a law are, by their types: numbers, structs of numbers, slices of such. No program is named here. -/
namespace Go.Proofs.Ytgidaifoiljgoaa
set_option linter.unusedSimpArgs false
set_option linter.unusedVariables false
open Go.RowKit
section
variable {P : Program} {t : TypeId} {x : D} {m : Nat} {ds : List D}
def in64 (z : Int) : Prop := -9223372036854775808 ≤ z ∧ z ≤ 9223372036854775807
theorem wf_i64 {z : Int} (h : (Lit.int .i64 z).wf = true) : in64 z := by
  simp only [Lit.wf, Bool.and_eq_true, decide_eq_true_eq] at h
  exact h
theorem tyv_one (h : TyV P t x) {d : TypeDesc} (hu : P.underlying t = some d) (h1 : (match d with | .struct _ => false | .array _ _ => false | _ => true) = true) : Ty P 9 t [x] := by
  unfold TyV at h
  rw [hu] at h
  cases d <;> first | exact h | cases h1
theorem ty_int {k : IntKind} (h : TyV P t x) (hu : P.underlying t = some (.int k)) : ∃ z, x = .v (.int k z) ∧ (Lit.int k z).wf = true := by
  have h := tyv_one h hu rfl
  have h : TyB (Ty P 8) P t [x] := h
  unfold TyB at h
  rw [hu] at h
  obtain ⟨z, h1, h2⟩ := h
  injection h1 with h1
  exact ⟨z, h1, h2⟩
theorem ty_i64 (h : TyV P t x) (hu : P.underlying t = some (.int .i64)) : ∃ z, x = .v (.int .i64 z) ∧ in64 z := by
  obtain ⟨z, h1, h2⟩ := ty_int h hu
  exact ⟨z, h1, wf_i64 h2⟩
theorem ty_bool (h : TyV P t x) (hu : P.underlying t = some .bool) : ∃ b, x = .v (.bool b) := by
  have h := tyv_one h hu rfl
  have h : TyB (Ty P 8) P t [x] := h
  unfold TyB at h
  rw [hu] at h
  obtain ⟨b, h1⟩ := h
  injection h1 with h1
  exact ⟨b, h1⟩
theorem ty_string (h : TyV P t x) (hu : P.underlying t = some .string) : ∃ s, x = .v (.string s) ∧ s.size ≤ reachBytes := by
  have h := tyv_one h hu rfl
  have h : TyB (Ty P 8) P t [x] := h
  unfold TyB at h
  rw [hu] at h
  obtain ⟨b, h1, h2⟩ := h
  injection h1 with h1
  exact ⟨b, h1, h2⟩
theorem ty_slice {e : TypeId} (h : TyV P t x) (hu : P.underlying t = some (.slice e)) : ∃ rows, x = .sl (P.cellsOf e) rows ∧ (∀ r ∈ rows, Ty P 8 e r) ∧ rows.length * P.bytesOf e ≤ reachBytes := by
  have h := tyv_one h hu rfl
  have h : TyB (Ty P 8) P t [x] := h
  unfold TyB at h
  rw [hu] at h
  obtain ⟨rows, h1, h2⟩ := h
  injection h1 with h1
  exact ⟨rows, h1, h2⟩
def isI64 (P : Program) (t : TypeId) : Bool := match P.underlying t with | some (.int .i64) => true | _ => false
theorem isI64_out (h : isI64 P t = true) : P.underlying t = some (.int .i64) := by
  unfold isI64 at h
  split at h
  · assumption
  · cases h
theorem tyall_ints : ∀ {ts : List TypeId} {dss : List (List D)}, TyAll (Ty P (m + 1)) ts dss → (ts.all fun t => isI64 P t) = true → ∃ zs : List Int, zs.length = ts.length ∧ dss.flatten = zs.map (fun z => D.v (.int .i64 z)) ∧ ∀ z ∈ zs, in64 z
  | [], dss, h, _ => by
    have h : dss = [] := h
    subst h
    exact ⟨[], rfl, rfl, fun z hz => by simp at hz⟩
  | t :: ts, dss, h, hi => by
    obtain ⟨d, r, rfl, h1, h2⟩ := h
    simp only [List.all_cons, Bool.and_eq_true] at hi
    obtain ⟨zs, g1, g2, g3⟩ := tyall_ints h2 hi.2
    have h1 : TyB (Ty P m) P t d := h1
    unfold TyB at h1
    rw [isI64_out hi.1] at h1
    obtain ⟨z, rfl, hz⟩ := h1
    refine ⟨z :: zs, by simp [g1], by simp [g2], fun y hy => ?_⟩
    rcases List.mem_cons.1 hy with e | e
    · subst e; exact wf_i64 hz
    · exact g3 y e
/-- Structs of n numbers. -/
def intsB (P : Program) (t : TypeId) (n : Nat) : Bool := match P.underlying t with
  | some (.struct fs) => Nat.beq fs.toList.length n && fs.toList.all fun f => isI64 P f.type
  | _ => false
theorem ty_ints {n : Nat} (h : Ty P (m + 2) t ds) (hb : intsB P t n = true) : ∃ zs : List Int, zs.length = n ∧ ds = zs.map (fun z => D.v (.int .i64 z)) ∧ ∀ z ∈ zs, in64 z := by
  unfold intsB at hb
  split at hb
  · rename_i fs hu
    simp only [Bool.and_eq_true] at hb
    have h : TyB (Ty P (m + 1)) P t ds := h
    unfold TyB at h
    rw [hu] at h
    obtain ⟨dss, rfl, h2⟩ := h
    obtain ⟨zs, g1, g2, g3⟩ := tyall_ints h2 (by rw [List.all_map]; exact hb.2)
    exact ⟨zs, by rw [g1, List.length_map]; exact Nat.eq_of_beq_eq_true hb.1, g2, g3⟩
  · cases hb
theorem ty_sints {n : Nat} (h : TyV P t x) (hb : intsB P t n = true) : ∃ zs : List Int, zs.length = n ∧ x = .agg (zs.map (fun z => D.v (.int .i64 z))) ∧ ∀ z ∈ zs, in64 z := by
  have hb' := hb
  unfold intsB at hb
  split at hb
  · rename_i fs hu
    unfold TyV at h
    rw [hu] at h
    obtain ⟨ds, rfl, h⟩ := h
    obtain ⟨zs, g1, g2, g3⟩ := ty_ints h hb'
    exact ⟨zs, g1, by rw [g2], g3⟩
  · cases hb
theorem rows_map {α : Type} {f : α → List D} {p : α → Prop} : ∀ {rows : List (List D)}, (∀ r ∈ rows, ∃ a, r = f a ∧ p a) → ∃ l : List α, rows = l.map f ∧ ∀ a ∈ l, p a
  | [], _ => ⟨[], rfl, fun a h => by simp at h⟩
  | r :: rest, h => by
    obtain ⟨a, rfl, ha⟩ := h r (List.mem_cons_self ..)
    obtain ⟨l, rfl, hl⟩ := rows_map (rows := rest) fun r hr => h r (List.mem_cons_of_mem _ hr)
    exact ⟨a :: l, rfl, fun b hb => (List.mem_cons.1 hb).elim (fun e => e ▸ ha) fun q => hl b q⟩
end
end Go.Proofs.Ytgidaifoiljgoaa
/- Plain laws of a sample's interval. -/
namespace Go.Proofs.Ytgidaifoiljgoaa
set_option linter.unusedSimpArgs false
set_option linter.unusedVariables false
open Go.RowKit
theorem ratN_up (a b c : Nat) (hc : 0 < c) : ratN a b c true = (a * b + (c - 1)) / c := by
  unfold ratN
  have hd := Nat.div_add_mod (a * b) c
  have hm := Nat.mod_lt (a * b) hc
  generalize hq : a * b / c = q at *
  generalize hr : a * b % c = r at *
  split
  · rename_i h
    symm
    rw [Nat.div_eq_iff hc]
    have : c * (q + 1) = c * q + c := Nat.mul_succ c q
    have : (q + 1) * c = c * (q + 1) := Nat.mul_comm _ _
    omega
  · rename_i h
    have h0 : r = 0 := by simpa using h
    symm
    rw [Nat.div_eq_iff hc]
    have : q * c = c * q := Nat.mul_comm _ _
    omega
theorem ratN_mono (a a' b c : Nat) (up : Bool) (hc : 0 < c) (h : a ≤ a') : ratN a b c up ≤ ratN a' b c up := by
  have hm : a * b ≤ a' * b := Nat.mul_le_mul_right _ h
  cases up with
  | true => rw [ratN_up _ _ _ hc, ratN_up _ _ _ hc]; exact Nat.div_le_div_right (by omega)
  | false => unfold ratN; simp; exact Nat.div_le_div_right hm
theorem lowZ_mono (x y r : Int) (hr : okRate r = true) (h : x ≤ y) : lowZ x r ≤ lowZ y r := by
  have hr := of_decide_eq_true hr
  unfold lowZ
  split
  · rw [if_pos (by omega)]
    have := ratN_mono (x - 1).toNat (y - 1).toNat 1000000 (1000000 + r).toNat true (by omega) (by omega)
    omega
  · split
    · omega
    · have := ratN_mono (1 - y).toNat (1 - x).toNat 1000000 (1000000 - r).toNat false (by omega) (by omega)
      omega
theorem atR_out {s : Smp} {a rho : Int} (h : (atR s a rho).2 = 0) : okS s = true ∧ isT a = true ∧ okRate rho = true ∧ atLo s a rho ≤ atHi s a rho ∧ (atR s a rho).1 = (atLo s a rho, atHi s a rho) := by
  unfold atR at h ⊢
  by_cases h1 : okS s = false
  · rw [if_pos h1] at h; cases h
  · rw [if_neg h1] at h ⊢
    by_cases h2 : isT a = false ∨ okRate rho = false
    · rw [if_pos h2] at h; cases h
    · rw [if_neg h2] at h ⊢
      by_cases h3 : atHi s a rho < atLo s a rho
      · rw [if_pos h3] at h; cases h
      · rw [if_neg h3]
        simp at h1 h2
        exact ⟨h1, h2.1, h2.2, by omega, rfl⟩
theorem rises_plain (s : Smp) (a b rho : Int) (ha : (atR s a rho).2 = 0) (hb : (atR s b rho).2 = 0) (h : a ≤ b) : (atR s a rho).1.1 ≤ (atR s b rho).1.1 ∧ (atR s a rho).1.2 ≤ (atR s b rho).1.2 := by
  obtain ⟨_, _, hr, _, e1⟩ := atR_out ha
  obtain ⟨_, _, _, _, e2⟩ := atR_out hb
  rw [e1, e2]
  unfold atLo atHi highZ
  have h1 := lowZ_mono (a - s.got) (b - s.got) rho hr (by omega)
  have h2 := lowZ_mono (-(b - s.sent)) (-(a - s.sent)) rho hr (by omega)
  constructor <;> omega
end Go.Proofs.Ytgidaifoiljgoaa
/- ClockRises, by conditions. -/
namespace Go.Proofs.Ytgidaifoiljgoaa
set_option linter.unusedSimpArgs false
set_option linter.unusedVariables false
open Go.RowKit
set_option maxRecDepth 100000
def inS (s : Smp) : Prop := in64 s.asked ∧ in64 s.got ∧ in64 s.sent ∧ in64 s.came
theorem ty_smp {x : D} (h : TyV Try.prog 33 x) : ∃ s, x = .agg (sR s) ∧ inS s := by
  obtain ⟨zs, h1, rfl, h3⟩ := ty_sints (n := 4) h (by kernel_rfl)
  match zs, h1, h3 with
  | [a, b, c, d], _, h3 => exact ⟨⟨a, b, c, d⟩, rfl, h3 a (by simp), h3 b (by simp), h3 c (by simp), h3 d (by simp)⟩
theorem ty_smps {x : D} (h : TyV Try.prog 22 x) : ∃ l : List Smp, x = .sl 4 (l.map sR) ∧ (∀ s ∈ l, inS s) ∧ l.length * 32 ≤ reachBytes := by
  obtain ⟨rows, rfl, h2, h3⟩ := ty_slice h Try.underlying22
  obtain ⟨l, rfl, hl⟩ := rows_map (f := sR) (p := inS) fun r hr => by
    obtain ⟨zs, h1, rfl, h3⟩ := ty_ints (n := 4) (h2 r hr) (by kernel_rfl)
    match zs, h1, h3 with
    | [a, b, c, d], _, h3 => exact ⟨⟨a, b, c, d⟩, rfl, h3 a (by simp), h3 b (by simp), h3 c (by simp), h3 d (by simp)⟩
  refine ⟨l, ?_, hl, ?_⟩
  · rw [show Try.prog.cellsOf 33 = 4 by kernel_rfl]
  · rw [show Try.prog.bytesOf 33 = 32 by kernel_rfl, List.length_map] at h3; exact h3
theorem rises_sat (s : Smp) (a b rho : Int) (ha : in64 a) (hb : in64 b) : Sat Try.prog 4 [sA s, iA a, iA b, iA rho] [] (bA true) [] := by
  refine sat_of_vc (T := tiOf Try.prog) (E := E0) Try.func4 rfl rfl hE0 hm0 rfl ?_
  conv => whnf
  repeat (any_goals (first
    | exact True.intro
    | (refine Or.inl ?_; conv => whnf)
    | (refine And.intro (fun _ => ?_) tf; conv => whnf)
    | (refine And.intro ft (fun _ => ?_); conv => whnf)
    | (refine And.intro (by kernel_rfl) ?_; conv => whnf)
    | (refine And.intro (by decide) ?_; conv => whnf)
    | (refine And.intro (fun _ => ?_) (fun h => absurd h (by decide)); conv => whnf)
    | (refine And.intro (fun h => absurd h (by decide)) (fun _ => ?_); conv => whnf)
    | (refine And.intro (fun _ => ?_) (fun _ => ?_) <;> conv => whnf)
    | (refine ⟨_, _, alive_sat.pu rfl rfl, ?_⟩; conv => whnf)
    | (refine ⟨_, _, (at_sat s a rho ha.1 ha.2).pu rfl rfl, ?_⟩; conv => whnf)
    | (refine ⟨_, _, (at_sat s b rho hb.1 hb.2).pu rfl rfl, ?_⟩; conv => whnf)))
  · all_goals refine ⟨[], ?_⟩
    repeat (any_goals (first | exact True.intro | exact rfl | with_reducible_and_instances rfl | exact (by kernel_rfl) | refine And.intro ?_ ?_))
    all_goals conv => whnf
  · have h1 : (atR s a rho).2 = 0 := (by (try simp only [decide_eq_true_eq, decide_eq_false_iff_not, Bool.not_eq_true', Bool.not_eq_false', Bool.not_eq_true, Bool.not_eq_false, beq_iff_eq, bne_iff_ne, beq_eq_false_iff_ne, bne_eq_false_iff_eq, ne_eq, Decidable.not_not, Int.natCast_eq_zero] at *); first | omega | assumption | (simp_all; done) | (simp_all; omega))
    have h2 : (atR s b rho).2 = 0 := (by (try simp only [decide_eq_true_eq, decide_eq_false_iff_not, Bool.not_eq_true', Bool.not_eq_false', Bool.not_eq_true, Bool.not_eq_false, beq_iff_eq, bne_iff_ne, beq_eq_false_iff_ne, bne_eq_false_iff_eq, ne_eq, Decidable.not_not, Int.natCast_eq_zero] at *); first | omega | assumption | (simp_all; done) | (simp_all; omega))
    have h3 : a ≤ b := (by (try simp only [decide_eq_true_eq, decide_eq_false_iff_not, Bool.not_eq_true', Bool.not_eq_false', Bool.not_eq_true, Bool.not_eq_false, beq_iff_eq, bne_iff_ne, beq_eq_false_iff_ne, bne_eq_false_iff_eq, ne_eq, Decidable.not_not, Int.natCast_eq_zero] at *); first | omega | assumption | (simp_all; done) | (simp_all; omega))
    rw [decide_eq_true (rises_plain s a b rho h1 h2 h3).2]
    all_goals refine ⟨[], ?_⟩
    repeat (any_goals (first | exact True.intro | exact rfl | with_reducible_and_instances rfl | exact (by kernel_rfl) | refine And.intro ?_ ?_))
    all_goals conv => whnf
  · exfalso
    have h1 : (atR s a rho).2 = 0 := (by (try simp only [decide_eq_true_eq, decide_eq_false_iff_not, Bool.not_eq_true', Bool.not_eq_false', Bool.not_eq_true, Bool.not_eq_false, beq_iff_eq, bne_iff_ne, beq_eq_false_iff_ne, bne_eq_false_iff_eq, ne_eq, Decidable.not_not, Int.natCast_eq_zero] at *); first | omega | assumption | (simp_all; done) | (simp_all; omega))
    have h2 : (atR s b rho).2 = 0 := (by (try simp only [decide_eq_true_eq, decide_eq_false_iff_not, Bool.not_eq_true', Bool.not_eq_false', Bool.not_eq_true, Bool.not_eq_false, beq_iff_eq, bne_iff_ne, beq_eq_false_iff_ne, bne_eq_false_iff_eq, ne_eq, Decidable.not_not, Int.natCast_eq_zero] at *); first | omega | assumption | (simp_all; done) | (simp_all; omega))
    have h3 : a ≤ b := (by (try simp only [decide_eq_true_eq, decide_eq_false_iff_not, Bool.not_eq_true', Bool.not_eq_false', Bool.not_eq_true, Bool.not_eq_false, beq_iff_eq, bne_iff_ne, beq_eq_false_iff_ne, bne_eq_false_iff_eq, ne_eq, Decidable.not_not, Int.natCast_eq_zero] at *); first | omega | assumption | (simp_all; done) | (simp_all; omega))
    have h4 := (rises_plain s a b rho h1 h2 h3).1
    simp_all
  · all_goals refine ⟨[], ?_⟩
    repeat (any_goals (first | exact True.intro | exact rfl | with_reducible_and_instances rfl | exact (by kernel_rfl) | refine And.intro ?_ ?_))
    all_goals conv => whnf
  · all_goals refine ⟨[], ?_⟩
    repeat (any_goals (first | exact True.intro | exact rfl | with_reducible_and_instances rfl | exact (by kernel_rfl) | refine And.intro ?_ ?_))
    all_goals conv => whnf
theorem rises_law (H : Type) (enc : TypeId × Value → H) : LawWalk H enc Try.prog 4 Try.f4 :=
  lawWalk_of_sat (by kernel_rfl) fun args h => by
    obtain ⟨x, _, rfl, h1, h⟩ := h
    obtain ⟨a, _, rfl, h2, h⟩ := h
    obtain ⟨b, _, rfl, h3, h⟩ := h
    obtain ⟨r, _, rfl, h4, h⟩ := h
    obtain rfl := h
    obtain ⟨s, rfl, _⟩ := ty_smp h1
    obtain ⟨a, rfl, ha⟩ := ty_i64 h2 Try.underlying2
    obtain ⟨b, rfl, hb⟩ := ty_i64 h3 Try.underlying2
    obtain ⟨r, rfl, _⟩ := ty_i64 h4 Try.underlying2
    exact rises_sat s a b r ha hb
end Go.Proofs.Ytgidaifoiljgoaa
/- ClockTrusts, by conditions. -/
namespace Go.Proofs.Ytgidaifoiljgoaa
set_option linter.unusedSimpArgs false
set_option linter.unusedVariables false
open Go.RowKit
set_option maxRecDepth 100000
/-- What a clock always is. -/
structure CInv (s : CSt) (rho least : Int) (k : Nat) : Prop where
  r : s.rho = rho
  l : s.least = least
  s0 : 0 ≤ s.streak
  s1 : s.streak ≤ k
  n8 : s.list.length ≤ 8
  ns : (s.list.length : Int) ≤ s.streak + 1
theorem keep_le (l : List Smp) (x : Smp) (h : l.length ≤ 8) : (keepC (l ++ [x])).length ≤ 8 ∧ (keepC (l ++ [x])).length ≤ l.length + 1 := by unfold keepC; split <;> simp at * <;> omega
/-- What Add does, each way. -/
theorem addC_ways (s : CSt) (x : Smp) {rho least : Int} {k : Nat} (I : CInv s rho least k) (hk : k ≤ 1000000) :
    (okS x = false ∧ addC s x = (s, 10)) ∨
    (okS x = true ∧ (addC s x).2 = 0 ∧ (addC s x).1.streak = s.streak + 1 ∧ (addC s x).1.held = (s.held && decide (s.streak + 1 < least)) ∧ CInv (addC s x).1 rho least (k + 1)) ∨
    (okS x = true ∧ (addC s x).2 = 21 ∧ (addC s x).1.streak = 0 ∧ (addC s x).1.held = true ∧ CInv (addC s x).1 rho least (k + 1)) := by
  obtain ⟨r, l, s0, s1, n8, ns⟩ := I
  cases hx : okS x with
  | false => exact .inl ⟨rfl, by unfold addC; rw [if_pos hx]⟩
  | true =>
    right
    have h0 : ¬ okS x = false := by simp [hx]
    have hk2 := keep_le s.list x n8
    by_cases ha : agreeB ((keepC (s.list ++ [x])).map fun o => gapOf o x.sent s.rho) = true
    · left
      have hr : addC s x = (⟨s.rho, s.least, if s.least ≤ s.streak + 1 then false else s.held, s.streak + 1, keepC (s.list ++ [x])⟩, 0) := by
        unfold addC; rw [if_neg h0, if_pos ha, if_pos (by omega)]
      rw [hr]
      refine ⟨rfl, rfl, rfl, ?_, ⟨r, l, by show 0 ≤ s.streak + 1; omega, by show s.streak + 1 ≤ _; omega, hk2.1, by show ((keepC (s.list ++ [x])).length : Int) ≤ s.streak + 1 + 1; omega⟩⟩
      show (if s.least ≤ s.streak + 1 then false else s.held) = _
      rw [l]
      split
      · rw [decide_eq_false (by omega)]; simp
      · rw [decide_eq_true (by omega)]; simp
    · right
      have hr : addC s x = (⟨s.rho, s.least, true, 0, if okG (gapOf x x.sent s.rho) = true then [x] else []⟩, 21) := by
        unfold addC; rw [if_neg h0, if_neg ha]
      rw [hr]
      refine ⟨rfl, rfl, rfl, rfl, ⟨r, l, by show (0 : Int) ≤ 0; omega, by show (0 : Int) ≤ _; omega, ?_, ?_⟩⟩
      · show (if okG (gapOf x x.sent s.rho) = true then [x] else []).length ≤ 8
        split <;> simp
      · show ((if okG (gapOf x x.sent s.rho) = true then [x] else []).length : Int) ≤ 0 + 1
        split <;> simp
theorem trusts_sat (rho trust : Int) (l : List Smp) : Sat Try.prog 5 [iA rho, iA trust, .d (.sl 4 (l.map sR))] [] (bA true) [] := by
  by_cases h60 : 60 < l.length
  · refine sat_of_vc (T := tiOf Try.prog) (E := E0) Try.func5 rfl rfl hE0 hm0 rfl ?_
    conv => whnf
    repeat (any_goals (first
      | exact True.intro
      | (refine Or.inl ?_; conv => whnf)
      | (refine And.intro (fun _ => ?_) tf; conv => whnf)
      | (refine And.intro ft (fun _ => ?_); conv => whnf)
      | (refine And.intro (by kernel_rfl) ?_; conv => whnf)
      | (refine And.intro (by decide) ?_; conv => whnf)
      | (refine And.intro (fun _ => ?_) (fun h => absurd h (by decide)); conv => whnf)
      | (refine And.intro (fun h => absurd h (by decide)) (fun _ => ?_); conv => whnf)
      | (refine And.intro (fun _ => ?_) (fun _ => ?_) <;> conv => whnf)
      | (refine ⟨_, _, alive_sat.pu rfl rfl, ?_⟩; conv => whnf)))
    all_goals try (exfalso; simp only [decide_eq_true_eq, decide_eq_false_iff_not, Bool.not_eq_true', Bool.not_eq_false', Bool.not_eq_true, Bool.not_eq_false, beq_iff_eq, bne_iff_ne, beq_eq_false_iff_ne, bne_eq_false_iff_eq, ne_eq, Decidable.not_not] at *; first | omega | contradiction | (simp_all; done) | (simp_all; omega))
    all_goals refine ⟨[], ?_⟩
    repeat (any_goals (first | exact True.intro | exact rfl | with_reducible_and_instances rfl | exact (by kernel_rfl) | refine And.intro ?_ ?_))
    all_goals conv => whnf
  by_cases hok : okRate rho = true ∧ 0 ≤ trust ∧ trust ≤ 100
  · have n1 := new_ok rho trust hok.1 hok.2.1 hok.2.2
    refine sat_of_vc (T := tiOf Try.prog) (E := E0) Try.func5 rfl rfl hE0 hm0 rfl ?_
    conv => whnf
    repeat (any_goals (first
      | exact True.intro
      | (refine And.intro (fun _ => ?_) tf; conv => whnf)
      | (refine And.intro ft (fun _ => ?_); conv => whnf)
      | (refine And.intro (by kernel_rfl) ?_; conv => whnf)
      | (refine And.intro (by decide) ?_; conv => whnf)
      | (refine And.intro (fun _ => ?_) (fun h => absurd h (by decide)); conv => whnf)
      | (refine And.intro (fun h => absurd h (by decide)) (fun _ => ?_); conv => whnf)
      | (refine And.intro (fun _ => ?_) (fun _ => ?_) <;> conv => whnf)))
    all_goals try (refine Or.inl ?_; conv => whnf)
    repeat (any_goals (first
      | exact True.intro
      | (refine And.intro (fun _ => ?_) tf; conv => whnf)
      | (refine And.intro ft (fun _ => ?_); conv => whnf)
      | (refine And.intro (by kernel_rfl) ?_; conv => whnf)
      | (refine And.intro (by decide) ?_; conv => whnf)
      | (refine And.intro (fun _ => ?_) (fun h => absurd h (by decide)); conv => whnf)
      | (refine And.intro (fun h => absurd h (by decide)) (fun _ => ?_); conv => whnf)
      | (refine And.intro (fun _ => ?_) (fun _ => ?_) <;> conv => whnf)
      | (refine ⟨_, _, alive_sat.pu rfl rfl, ?_⟩; conv => whnf)))
    all_goals try (refine Or.inl ?_; conv => whnf)
    repeat (any_goals (first
      | exact True.intro
      | (refine And.intro (fun _ => ?_) tf; conv => whnf)
      | (refine And.intro ft (fun _ => ?_); conv => whnf)
      | (refine And.intro (by kernel_rfl) ?_; conv => whnf)
      | (refine And.intro (by decide) ?_; conv => whnf)
      | (refine And.intro (fun _ => ?_) (fun h => absurd h (by decide)); conv => whnf)
      | (refine And.intro (fun h => absurd h (by decide)) (fun _ => ?_); conv => whnf)
      | (refine And.intro (fun _ => ?_) (fun _ => ?_) <;> conv => whnf)))
    all_goals try (exfalso; simp only [decide_eq_true_eq, decide_eq_false_iff_not, Bool.not_eq_true', Bool.not_eq_false', Bool.not_eq_true, Bool.not_eq_false, beq_iff_eq, bne_iff_ne, beq_eq_false_iff_ne, bne_eq_false_iff_eq, ne_eq, Decidable.not_not] at *; first | omega | contradiction | (simp_all; done) | (simp_all; omega))
    all_goals try (refine Or.inl ?_; conv => whnf)
    repeat (any_goals (first
      | exact True.intro
      | (refine And.intro (fun _ => ?_) tf; conv => whnf)
      | (refine And.intro ft (fun _ => ?_); conv => whnf)
      | (refine And.intro (by kernel_rfl) ?_; conv => whnf)
      | (refine And.intro (by decide) ?_; conv => whnf)
      | (refine And.intro (fun _ => ?_) (fun h => absurd h (by decide)); conv => whnf)
      | (refine And.intro (fun h => absurd h (by decide)) (fun _ => ?_); conv => whnf)
      | (refine And.intro (fun _ => ?_) (fun _ => ?_) <;> conv => whnf)
      | (refine ⟨_, _, n1.nw rfl, ?_⟩; conv => whnf)))
    all_goals try (refine Or.inl ?_; conv => whnf)
    repeat (any_goals (first
      | exact True.intro
      | (refine And.intro (fun _ => ?_) tf; conv => whnf)
      | (refine And.intro ft (fun _ => ?_); conv => whnf)
      | (refine And.intro (by kernel_rfl) ?_; conv => whnf)
      | (refine And.intro (by decide) ?_; conv => whnf)
      | (refine And.intro (fun _ => ?_) (fun h => absurd h (by decide)); conv => whnf)
      | (refine And.intro (fun h => absurd h (by decide)) (fun _ => ?_); conv => whnf)
      | (refine And.intro (fun _ => ?_) (fun _ => ?_) <;> conv => whnf)
      | (refine ⟨_, _, eqP (by kernel_rfl), ?_⟩; conv => whnf)))
    all_goals try (exfalso; simp only [decide_eq_true_eq, decide_eq_false_iff_not, Bool.not_eq_true', Bool.not_eq_false', Bool.not_eq_true, Bool.not_eq_false, beq_iff_eq, bne_iff_ne, beq_eq_false_iff_ne, bne_eq_false_iff_eq, ne_eq, Decidable.not_not] at *; first | omega | contradiction | (simp_all; done) | (simp_all; omega))
    all_goals try (refine Or.inl ?_; conv => whnf)
    repeat (any_goals (first
      | exact True.intro
      | (refine And.intro (fun _ => ?_) tf; conv => whnf)
      | (refine And.intro ft (fun _ => ?_); conv => whnf)
      | (refine And.intro (by kernel_rfl) ?_; conv => whnf)
      | (refine And.intro (by decide) ?_; conv => whnf)
      | (refine And.intro (fun _ => ?_) (fun h => absurd h (by decide)); conv => whnf)
      | (refine And.intro (fun h => absurd h (by decide)) (fun _ => ?_); conv => whnf)
      | (refine And.intro (fun _ => ?_) (fun _ => ?_) <;> conv => whnf)))
    refine ⟨Nat × CSt, fun y => y.1 ≤ l.length ∧ CInv y.2 rho trust y.1, fun y => ([(11, iA y.1), (9, iA y.2.streak), (10, bA y.2.held), (7, .ptr 0 0), (1, iA trust), (2, .d (.sl 4 (l.map sR)))], cH y.2), fun y => l.length - y.1, ⟨(0, ⟨rho, trust, false, 0, []⟩), ⟨Nat.zero_le _, rfl, rfl, Int.le_refl _, Int.le_refl _, Nat.zero_le _, show (0 : Int) ≤ 0 + 1 by omega⟩, ?_⟩, ?_⟩
    · all_goals refine ⟨[], ?_⟩
      repeat (any_goals (first | exact True.intro | exact rfl | with_reducible_and_instances rfl | exact (by kernel_rfl) | refine And.intro ?_ ?_))
      all_goals conv => whnf
    rintro ⟨k, s⟩ ⟨hk, I⟩
    have hk : k ≤ l.length := hk
    have I : CInv s rho trust k := I
    conv => whnf
    by_cases hlt : k < l.length
    · have hx : l[k]? = some l[k] := List.getElem?_eq_getElem hlt
      generalize l[k] = x at hx
      have hI := I
      obtain ⟨r1, r2, s0, s1, n8, ns⟩ := I
      have d := add_sat s x n8 (by omega)
      have hw := addC_ways s x hI (by omega)
      generalize hq : addC s x = q at d hw
      obtain ⟨s', e⟩ := q
      have d : Sat Try.prog 15 [.ptr 0 0, sA x] (cH s) (iA e) (cH2 s') := d
      have hI' : CInv s' rho trust (k + 1) := by
        rcases hw with ⟨_, h⟩ | ⟨_, _, _, _, h⟩ | ⟨_, _, _, _, h⟩
        · injection h with h _; subst h; exact ⟨r1, r2, s0, by omega, n8, ns⟩
        · exact h
        · exact h
      have hw : (okS x = false ∧ e = 10 ∧ s'.streak = s.streak ∧ s'.held = s.held) ∨ (okS x = true ∧ e = 0 ∧ s'.streak = s.streak + 1 ∧ s'.held = (s.held && decide (s.streak + 1 < trust))) ∨ (okS x = true ∧ e = 21 ∧ s'.streak = 0 ∧ s'.held = true) := by
        rcases hw with ⟨h1, h⟩ | ⟨h1, h2, h3, h4, _⟩ | ⟨h1, h2, h3, h4, _⟩
        · injection h with h h'; subst h h'; exact .inl ⟨h1, rfl, rfl, rfl⟩
        · exact .inr (.inl ⟨h1, h2, h3, h4⟩)
        · exact .inr (.inr ⟨h1, h2, h3, h4⟩)
      have h8 := hI'.n8
      have hn := hI'.ns
      have hs0 := hI'.s0
      have hs1 := hI'.s1
      have hw1 : IntKind.i64.wrap (s.streak + 1) = s.streak + 1 := wi (by omega) (by omega)
      have hw2 : IntKind.i64.wrap (s.streak + 1 + 1) = s.streak + 2 := by rw [wi (by omega) (by omega)]; omega
      have hw3 : IntKind.i64.wrap (0 + 1) = 1 := by decide
      rcases hw with ⟨g1, rfl, g3, g4⟩ | ⟨g1, rfl, g3, g4⟩ | ⟨g1, rfl, g3, g4⟩
      · repeat (any_goals (first
          | exact True.intro
          | (refine Or.inl ?_; conv => whnf)
          | (refine And.intro (fun _ => ?_) tf; conv => whnf)
          | (refine And.intro ft (fun _ => ?_); conv => whnf)
          | (refine And.intro (by kernel_rfl) ?_; conv => whnf)
          | (refine And.intro (by decide) ?_; conv => whnf)
          | (refine And.intro (fun _ => ?_) (fun h => absurd h (by decide)); conv => whnf)
          | (refine And.intro (fun h => absurd h (by decide)) (fun _ => ?_); conv => whnf)
          | (refine And.intro (fun _ => ?_) (fun h => absurd h (by simpa using hlt)); conv => whnf)
          | (refine ⟨k, _, rfl, map_get hx, ?_⟩; conv => whnf)
          | (refine And.intro (fun _ => ?_) (fun _ => ?_) <;> conv => whnf)
          | (refine ⟨_, _, d.at2 0 1 rfl rfl rfl rfl rfl, ?_⟩; conv => whnf)
          | (refine ⟨_, _, (right_sat x).pu rfl rfl, ?_⟩; conv => whnf)
          | (refine ⟨_, _, (streak_sat s').at2 0 2 rfl rfl rfl rfl rfl, ?_⟩; conv => whnf)
          | (refine ⟨_, _, (held_sat s').at2 0 2 rfl rfl rfl rfl rfl, ?_⟩; conv => whnf)
          | (refine ⟨_, _, neB (by kernel_rfl), ?_⟩; conv => whnf)
          | (refine ⟨_, _, (samples_sat s' h8).at2 0 2 rfl rfl rfl rfl rfl, ?_⟩; conv => whnf)))
        all_goals try (exfalso; simp only [decide_eq_true_eq, decide_eq_false_iff_not, Bool.not_eq_true', Bool.not_eq_false', Bool.not_eq_true, Bool.not_eq_false, beq_iff_eq, bne_iff_ne, beq_eq_false_iff_ne, bne_eq_false_iff_eq, ne_eq, Decidable.not_not] at *; first | omega | contradiction | (simp_all; done) | (simp_all; omega))
        all_goals try (exfalso; simp only [hw1, hw2, hw3, g3, g4, List.length_map, decide_eq_true_eq, decide_eq_false_iff_not, bne_iff_ne, ne_eq, gt_iff_lt] at *; omega)
        all_goals try (exfalso; simp_all; done)
        all_goals refine ⟨(k + 1, s'), ⟨hlt, hI'⟩, show l.length - (k + 1) < l.length - k by omega, ?_⟩
        all_goals refine ⟨[(1, 2)], ?_⟩
        repeat (any_goals (first | exact True.intro | exact rfl | with_reducible_and_instances rfl | exact (by kernel_rfl) | refine And.intro ?_ ?_))
        all_goals conv => whnf
        all_goals first | exact wk1 (by omega) | (simp_all; done)
      · repeat (any_goals (first
          | exact True.intro
          | (refine Or.inl ?_; conv => whnf)
          | (refine And.intro (fun _ => ?_) tf; conv => whnf)
          | (refine And.intro ft (fun _ => ?_); conv => whnf)
          | (refine And.intro (by kernel_rfl) ?_; conv => whnf)
          | (refine And.intro (by decide) ?_; conv => whnf)
          | (refine And.intro (fun _ => ?_) (fun h => absurd h (by decide)); conv => whnf)
          | (refine And.intro (fun h => absurd h (by decide)) (fun _ => ?_); conv => whnf)
          | (refine And.intro (fun _ => ?_) (fun h => absurd h (by simpa using hlt)); conv => whnf)
          | (refine ⟨k, _, rfl, map_get hx, ?_⟩; conv => whnf)
          | (refine And.intro (fun _ => ?_) (fun _ => ?_) <;> conv => whnf)
          | (refine ⟨_, _, d.at2 0 1 rfl rfl rfl rfl rfl, ?_⟩; conv => whnf)
          | (refine ⟨_, _, (right_sat x).pu rfl rfl, ?_⟩; conv => whnf)
          | (refine ⟨_, _, (streak_sat s').at2 0 2 rfl rfl rfl rfl rfl, ?_⟩; conv => whnf)
          | (refine ⟨_, _, (held_sat s').at2 0 2 rfl rfl rfl rfl rfl, ?_⟩; conv => whnf)
          | (refine ⟨_, _, neB (by kernel_rfl), ?_⟩; conv => whnf)
          | (refine ⟨_, _, (samples_sat s' h8).at2 0 2 rfl rfl rfl rfl rfl, ?_⟩; conv => whnf)))
        all_goals try (exfalso; simp only [decide_eq_true_eq, decide_eq_false_iff_not, Bool.not_eq_true', Bool.not_eq_false', Bool.not_eq_true, Bool.not_eq_false, beq_iff_eq, bne_iff_ne, beq_eq_false_iff_ne, bne_eq_false_iff_eq, ne_eq, Decidable.not_not] at *; first | omega | contradiction | (simp_all; done) | (simp_all; omega))
        all_goals try (exfalso; simp only [hw1, hw2, hw3, g3, g4, List.length_map, decide_eq_true_eq, decide_eq_false_iff_not, bne_iff_ne, ne_eq, gt_iff_lt] at *; omega)
        all_goals try (exfalso; simp_all; done)
        all_goals refine ⟨(k + 1, s'), ⟨hlt, hI'⟩, show l.length - (k + 1) < l.length - k by omega, ?_⟩
        all_goals refine ⟨[(1, 2)], ?_⟩
        repeat (any_goals (first | exact True.intro | exact rfl | with_reducible_and_instances rfl | exact (by kernel_rfl) | refine And.intro ?_ ?_))
        all_goals conv => whnf
        all_goals first | exact wk1 (by omega) | (simp_all; done)
      · repeat (any_goals (first
          | exact True.intro
          | (refine Or.inl ?_; conv => whnf)
          | (refine And.intro (fun _ => ?_) tf; conv => whnf)
          | (refine And.intro ft (fun _ => ?_); conv => whnf)
          | (refine And.intro (by kernel_rfl) ?_; conv => whnf)
          | (refine And.intro (by decide) ?_; conv => whnf)
          | (refine And.intro (fun _ => ?_) (fun h => absurd h (by decide)); conv => whnf)
          | (refine And.intro (fun h => absurd h (by decide)) (fun _ => ?_); conv => whnf)
          | (refine And.intro (fun _ => ?_) (fun h => absurd h (by simpa using hlt)); conv => whnf)
          | (refine ⟨k, _, rfl, map_get hx, ?_⟩; conv => whnf)
          | (refine And.intro (fun _ => ?_) (fun _ => ?_) <;> conv => whnf)
          | (refine ⟨_, _, d.at2 0 1 rfl rfl rfl rfl rfl, ?_⟩; conv => whnf)
          | (refine ⟨_, _, (right_sat x).pu rfl rfl, ?_⟩; conv => whnf)
          | (refine ⟨_, _, (streak_sat s').at2 0 2 rfl rfl rfl rfl rfl, ?_⟩; conv => whnf)
          | (refine ⟨_, _, (held_sat s').at2 0 2 rfl rfl rfl rfl rfl, ?_⟩; conv => whnf)
          | (refine ⟨_, _, neB (by kernel_rfl), ?_⟩; conv => whnf)
          | (refine ⟨_, _, (samples_sat s' h8).at2 0 2 rfl rfl rfl rfl rfl, ?_⟩; conv => whnf)))
        all_goals try (exfalso; simp only [decide_eq_true_eq, decide_eq_false_iff_not, Bool.not_eq_true', Bool.not_eq_false', Bool.not_eq_true, Bool.not_eq_false, beq_iff_eq, bne_iff_ne, beq_eq_false_iff_ne, bne_eq_false_iff_eq, ne_eq, Decidable.not_not] at *; first | omega | contradiction | (simp_all; done) | (simp_all; omega))
        all_goals try (exfalso; simp only [hw1, hw2, hw3, g3, g4, List.length_map, decide_eq_true_eq, decide_eq_false_iff_not, bne_iff_ne, ne_eq, gt_iff_lt] at *; omega)
        all_goals try (exfalso; simp_all; done)
        all_goals refine ⟨(k + 1, s'), ⟨hlt, hI'⟩, show l.length - (k + 1) < l.length - k by omega, ?_⟩
        all_goals refine ⟨[(1, 2)], ?_⟩
        repeat (any_goals (first | exact True.intro | exact rfl | with_reducible_and_instances rfl | exact (by kernel_rfl) | refine And.intro ?_ ?_))
        all_goals conv => whnf
        all_goals first | exact wk1 (by omega) | (simp_all; done)
    · repeat (any_goals (first
        | exact True.intro
        | (refine Or.inl ?_; conv => whnf)
        | (refine And.intro (fun _ => ?_) tf; conv => whnf)
        | (refine And.intro ft (fun _ => ?_); conv => whnf)
        | (refine And.intro (by kernel_rfl) ?_; conv => whnf)
        | (refine And.intro (by decide) ?_; conv => whnf)
        | (refine And.intro (fun _ => ?_) (fun h => absurd h (by decide)); conv => whnf)
        | (refine And.intro (fun h => absurd h (by decide)) (fun _ => ?_); conv => whnf)
        | (refine And.intro (fun h => absurd h (by simpa using hlt)) (fun _ => ?_); conv => whnf)
        | (refine And.intro (fun _ => ?_) (fun _ => ?_) <;> conv => whnf)))
      all_goals try (exfalso; simp only [decide_eq_true_eq, decide_eq_false_iff_not, Bool.not_eq_true', Bool.not_eq_false', Bool.not_eq_true, Bool.not_eq_false, beq_iff_eq, bne_iff_ne, beq_eq_false_iff_ne, bne_eq_false_iff_eq, ne_eq, Decidable.not_not] at *; first | omega | contradiction | (simp_all; done) | (simp_all; omega))
      all_goals refine ⟨[], ?_⟩
      repeat (any_goals (first | exact True.intro | exact rfl | with_reducible_and_instances rfl | exact (by kernel_rfl) | refine And.intro ?_ ?_))
      all_goals conv => whnf
  · have n1 := new_err rho trust (by simp at hok; rcases h : okRate rho with _ | _ <;> simp_all; omega)
    refine sat_of_vc (T := tiOf Try.prog) (E := E0) Try.func5 rfl rfl hE0 hm0 rfl ?_
    conv => whnf
    repeat (any_goals (first
      | exact True.intro
      | (refine Or.inl ?_; conv => whnf)
      | (refine And.intro (fun _ => ?_) tf; conv => whnf)
      | (refine And.intro ft (fun _ => ?_); conv => whnf)
      | (refine And.intro (by kernel_rfl) ?_; conv => whnf)
      | (refine And.intro (by decide) ?_; conv => whnf)
      | (refine And.intro (fun _ => ?_) (fun h => absurd h (by decide)); conv => whnf)
      | (refine And.intro (fun h => absurd h (by decide)) (fun _ => ?_); conv => whnf)
      | (refine And.intro (fun _ => ?_) (fun _ => ?_) <;> conv => whnf)
      | (refine ⟨_, _, alive_sat.pu rfl rfl, ?_⟩; conv => whnf)
      | (refine ⟨_, _, n1.pu rfl rfl, ?_⟩; conv => whnf)
      | (refine ⟨_, _, eqN (by kernel_rfl), ?_⟩; conv => whnf)))
    all_goals try (exfalso; simp only [decide_eq_true_eq, decide_eq_false_iff_not, Bool.not_eq_true', Bool.not_eq_false', Bool.not_eq_true, Bool.not_eq_false, beq_iff_eq, bne_iff_ne, beq_eq_false_iff_ne, bne_eq_false_iff_eq, ne_eq, Decidable.not_not] at *; first | omega | contradiction | (simp_all; done) | (simp_all; omega))
    all_goals refine ⟨[], ?_⟩
    repeat (any_goals (first | exact True.intro | exact rfl | with_reducible_and_instances rfl | exact (by kernel_rfl) | refine And.intro ?_ ?_))
    all_goals conv => whnf
theorem trusts_law (H : Type) (enc : TypeId × Value → H) : LawWalk H enc Try.prog 5 Try.f5 :=
  lawWalk_of_sat (by kernel_rfl) fun args h => by
    obtain ⟨a, _, rfl, h1, h⟩ := h
    obtain ⟨b, _, rfl, h2, h⟩ := h
    obtain ⟨x, _, rfl, h3, h⟩ := h
    obtain rfl := h
    obtain ⟨a, rfl, _⟩ := ty_i64 h1 Try.underlying2
    obtain ⟨b, rfl, _⟩ := ty_i64 h2 Try.underlying3
    obtain ⟨l, rfl, _⟩ := ty_smps h3
    exact trusts_sat a b l
end Go.Proofs.Ytgidaifoiljgoaa
/- Plain laws of a clock's interval. -/
namespace Go.Proofs.Ytgidaifoiljgoaa
set_option linter.unusedSimpArgs false
set_option linter.unusedVariables false
open Go.RowKit
theorem keep_mem {l : List Smp} {x y : Smp} (h : y ∈ keepC (l ++ [x])) : y ∈ l ∨ y = x := by
  have : y ∈ l ++ [x] := by
    unfold keepC at h
    split at h
    · exact List.mem_of_mem_drop h
    · exact h
  simpa using this
theorem addC_okS (s : CSt) (x : Smp) (h : ∀ y ∈ s.list, okS y = true) : ∀ y ∈ (addC s x).1.list, okS y = true := by
  unfold addC
  by_cases hx : okS x = false
  · rw [if_pos hx]; exact h
  · rw [if_neg hx]
    have hx : okS x = true := by simpa using hx
    intro y hy
    simp only at hy
    split at hy
    · rcases keep_mem hy with q | q
      · exact h y q
      · subst q; exact hx
    · simp only at hy
      split at hy
      · simp at hy; subst hy; exact hx
      · simp at hy
theorem atR_code {s : Smp} {a rho : Int} (h : okS s = true) (h0 : (atR s a rho).2 ≠ 0) : (atR s a rho).2 = 13 ∨ (atR s a rho).2 = 11 := by
  unfold atR at h0 ⊢
  rw [if_neg (by simp [h])] at h0 ⊢
  split
  · exact .inr rfl
  · split
    · exact .inl rfl
    · rename_i h1 h2; rw [if_neg h1, if_neg h2] at h0; exact absurd rfl h0
theorem atC_bad {s : CSt} {stamp : Int} {k : Nat} {x : Smp} (hok : ∀ y ∈ s.list, okS y = true) (hf : (s.list.take k).find? (fun x => decide ((atR x stamp s.rho).2 ≠ 0)) = none) (hx : s.list[k]? = some x) (h0 : (atR x stamp s.rho).2 ≠ 0) :
    (atC s stamp).2 = 13 ∨ (atC s stamp).2 = 11 := by
  have hne : s.list ≠ [] := fun e => by rw [e] at hx; simp at hx
  unfold atC
  rw [if_neg hne]
  by_cases ht : isT stamp = false
  · rw [if_pos ht]; exact .inr rfl
  · rw [if_neg ht, find_hit hf hx (by simpa using h0)]
    exact atR_code (hok x (List.mem_of_getElem? hx)) h0
theorem atC_good {s : CSt} {stamp : Int} (hne : s.list ≠ []) (hf : s.list.find? (fun x => decide ((atR x stamp s.rho).2 ≠ 0)) = none) : atC s stamp = meetR (s.list.map fun x => (atR x stamp s.rho).1) := by
  unfold atC
  rw [if_neg hne]
  by_cases ht : isT stamp = false
  · exfalso
    cases hl : s.list with
    | nil => exact hne hl
    | cons x r =>
      rw [hl] at hf
      have := List.find?_eq_none.1 hf x (List.mem_cons_self ..)
      simp at this
      have := (atR_out this).2.1
      rw [ht] at this; cases this
  · rw [if_neg ht, hf]
theorem meetL_snoc (a : Int × Int) (gs : List (Int × Int)) (x : Int × Int) : meetL a (gs ++ [x]) = (max (meetL a gs).1 x.1, min (meetL a gs).2 x.2) := by
  unfold meetL; rw [List.foldl_append]; rfl
theorem meetR_ok {gs : List (Int × Int)} (h : (meetR gs).2 = 0) : gs.all okG = true ∧ okG (meetL allG gs) = true ∧ (meetR gs).1 = meetL allG gs := by
  unfold meetR foldR at h ⊢
  by_cases h1 : gs.all okG = false
  · rw [if_pos h1] at h; cases h
  · rw [if_neg h1] at h ⊢
    by_cases h2 : okG (meetL allG gs) = true
    · rw [if_pos h2]; exact ⟨by simpa using h1, h2, rfl⟩
    · rw [if_neg h2] at h; cases h
def withB (g o : Int × Int) : Bool := okG g && decide (o.1 ≤ g.1) && decide (g.2 ≤ o.2)
theorem within_snoc {gs : List (Int × Int)} {x : Int × Int} (h : (meetR gs).2 = 0) (h' : (meetR (gs ++ [x])).2 = 0) : withB (meetR (gs ++ [x])).1 (meetR gs).1 = true := by
  obtain ⟨_, _, e1⟩ := meetR_ok h
  obtain ⟨_, h2, e2⟩ := meetR_ok h'
  unfold withB
  rw [e2, h2, e1, meetL_snoc]
  simp
  constructor <;> omega
theorem atC_zero {s : CSt} {stamp : Int} (h : (atC s stamp).2 = 0) : s.list ≠ [] ∧ isT stamp = true ∧ s.list.find? (fun x => decide ((atR x stamp s.rho).2 ≠ 0)) = none ∧ atC s stamp = meetR (s.list.map fun x => (atR x stamp s.rho).1) := by
  unfold atC at h ⊢
  by_cases h1 : s.list = []
  · rw [if_pos h1] at h; cases h
  · rw [if_neg h1] at h ⊢
    by_cases h2 : isT stamp = false
    · rw [if_pos h2] at h; cases h
    · rw [if_neg h2] at h ⊢
      cases hf : s.list.find? (fun x => decide ((atR x stamp s.rho).2 ≠ 0)) with
      | some x =>
        rw [hf] at h
        have := List.find?_some hf
        simp at this
        exact absurd h this
      | none => exact ⟨h1, by simpa using h2, rfl, rfl⟩
theorem meets_last {s : CSt} {x : Smp} {stamp : Int} (h : (atC s stamp).2 = 0) (ha : (addC s x).2 = 0) (hi : (atC (addC s x).1 stamp).2 = 0) (h8 : s.list.length ≤ 8) (hn : s.list.length ≠ 8) : withB (atC (addC s x).1 stamp).1 (atC s stamp).1 = true := by
  obtain ⟨_, _, _, e1⟩ := atC_zero h
  obtain ⟨_, _, _, e2⟩ := atC_zero hi
  have hl : (addC s x).1.list = s.list ++ [x] ∧ (addC s x).1.rho = s.rho := by
    unfold addC at ha ⊢
    by_cases hx : okS x = false
    · rw [if_pos hx] at ha; cases ha
    · rw [if_neg hx] at ha ⊢
      simp only at ha ⊢
      split
      · refine ⟨?_, rfl⟩
        show keepC (s.list ++ [x]) = _
        unfold keepC
        rw [if_neg (by simp; omega)]
      · rename_i hg; rw [if_neg hg] at ha; cases ha
  rw [e1] at h ⊢
  rw [e2] at hi ⊢
  rw [hl.1, hl.2, List.map_append] at hi ⊢
  exact within_snoc h hi
end Go.Proofs.Ytgidaifoiljgoaa
/- Comparisons of structs of numbers, truth values and strings. No program is named here. -/
namespace Go.Proofs.Ytgidaifoiljgoaa
set_option linter.unusedSimpArgs false
set_option linter.unusedVariables false
open Go.RowKit
section
variable {P : Program} {w w' : World} {F F' : Nat → Prop} {ρ ρ' : Nat → Option Value} {H : Hp} {L : List AObj} {ty n : Nat} {x y : Operand} {t t' : TypeId}
def tagT (P : Program) (t : TypeId) : Nat := match P.underlying t with | some (.int _) => 1 | some .bool => 2 | some .string => 3 | _ => 0
def flatGo (P : Program) : List Field → Nat → List Nat → Bool
  | [], _, [] => true
  | f :: fs, o, k :: ks => f.name != "_" && Nat.beq f.offset o && Nat.beq (tagT P f.type) k && Nat.blt 0 k && flatGo P fs (o + 1) ks
  | _, _, _ => false
/-- A struct of such cells. -/
def flatB (P : Program) (t : TypeId) (ks : List Nat) : Bool := match P.underlying t with
  | some (.struct fs) => !P.stoodInHeld t && !P.eqGuardType P.depth t && flatGo P fs.toList 0 ks
  | _ => false
def eqV : Nat → D → D → Option Bool
  | 1, .v (.int k a), .v (.int k' b) => match kEq k k' with | true => some (a == b) | false => none
  | 2, .v (.bool a), .v (.bool b) => some (a == b)
  | 3, .v (.string a), .v (.string b) => some (a == b)
  | _, _, _ => none
def eqL : List Nat → List D → List D → Option Bool
  | [], [], [] => some true
  | k :: ks, x :: xs, y :: ys => match ks with
    | [] => (match xs, ys with | [], [] => eqV k x y | _, _ => none)
    | k' :: ks' => (match eqV k x y with
      | some a => (match eqL (k' :: ks') xs ys with | some b => some (a && b) | none => none)
      | none => none)
  | _, _, _ => none
def unD : D → Value
  | .v u => u
  | _ => undef
theorem eqV_out {k : Nat} {x y : D} {b : Bool} (h : eqV k x y = some b) : (k = 1 ∧ ∃ q a c, x = .v (.int q a) ∧ y = .v (.int q c) ∧ b = (a == c)) ∨ (k = 2 ∧ ∃ a c, x = .v (.bool a) ∧ y = .v (.bool c) ∧ b = (a == c)) ∨ (k = 3 ∧ ∃ a c, x = .v (.string a) ∧ y = .v (.string c) ∧ b = (a == c)) := by
  unfold eqV at h
  split at h
  · split at h
    · rename_i hk
      obtain rfl := kEq_out hk
      injection h with h
      exact .inl ⟨rfl, _, _, _, rfl, rfl, h.symm⟩
    · cases h
  · injection h with h
    exact .inr (.inl ⟨rfl, _, _, rfl, rfl, h.symm⟩)
  · injection h with h
    exact .inr (.inr ⟨rfl, _, _, rfl, rfl, h.symm⟩)
  · cases h
theorem tagT_one {t : TypeId} (h : tagT P t = 1) : ∃ k, P.underlying t = some (.int k) := by
  unfold tagT at h
  split at h <;> first | exact ⟨_, by assumption⟩ | (exact absurd h (by decide))
theorem tagT_two {t : TypeId} (h : tagT P t = 2) : P.underlying t = some .bool := by
  unfold tagT at h
  split at h <;> first | assumption | (exact absurd h (by decide))
theorem tagT_three {t : TypeId} (h : tagT P t = 3) : P.underlying t = some .string := by
  unfold tagT at h
  split at h <;> first | assumption | (exact absurd h (by decide))
theorem eqV_run {k : Nat} {x y : D} {b : Bool} (h : eqV k x y = some b) {t : TypeId} (ht : tagT P t = k) (m : Nat) : (Op.equalIn (m + 1) t (unD x) (unD y)).run P w = .ok b w := by
  rcases eqV_out h with ⟨rfl, q, a, c, rfl, rfl, rfl⟩ | ⟨rfl, a, c, rfl, rfl, rfl⟩ | ⟨rfl, a, c, rfl, rfl, rfl⟩
  · obtain ⟨k, hk⟩ := tagT_one ht
    simp [unD, Op.equalIn, run_underlying hk]
  · simp [unD, Op.equalIn, run_underlying (tagT_two ht)]
  · simp [unD, Op.equalIn, run_underlying (tagT_three ht)]
theorem eqV_unD {k : Nat} {x y : D} {b : Bool} (h : eqV k x y = some b) : x = .v (unD x) ∧ y = .v (unD y) := by
  rcases eqV_out h with ⟨rfl, q, a, c, rfl, rfl, rfl⟩ | ⟨rfl, a, c, rfl, rfl, rfl⟩ | ⟨rfl, a, c, rfl, rfl, rfl⟩ <;> exact ⟨rfl, rfl⟩
theorem part_tag {t : TypeId} {k : Nat} (ht : tagT P t = k) (h0 : 0 < k) {cs : Array Value} {o : Nat} {v : Value} (hv : cs[o]? = some v) : (part t cs o).run P w = .ok v w := by
  have : ∃ d, P.underlying t = some d ∧ (match d with | .struct _ => false | .array _ _ => false | _ => true) = true := by
    unfold tagT at ht
    split at ht
    · exact ⟨_, by assumption, rfl⟩
    · exact ⟨_, by assumption, rfl⟩
    · exact ⟨_, by assumption, rfl⟩
    · omega
  obtain ⟨d, hd, h1⟩ := this
  cases d <;> first | (cases h1; done) | simp [part, isAgg, run_underlying hd, hv]
theorem eqL_cons {k : Nat} {ks : List Nat} {xs ys : List D} {b : Bool} (h : eqL (k :: ks) xs ys = some b) : ∃ x xs' y ys' a c, xs = x :: xs' ∧ ys = y :: ys' ∧ eqV k x y = some a ∧ eqL ks xs' ys' = some c ∧ b = (a && c) := by
  cases xs with
  | nil => simp [eqL] at h
  | cons x xs =>
    cases ys with
    | nil => simp [eqL] at h
    | cons y ys =>
      cases ks with
      | nil =>
        cases xs with
        | nil =>
          cases ys with
          | nil => exact ⟨x, [], y, [], b, true, rfl, rfl, h, rfl, by simp⟩
          | cons _ _ => simp [eqL] at h
        | cons _ _ => simp [eqL] at h
      | cons k' ks =>
        rw [eqL] at h
        cases h1 : eqV k x y with
        | none => simp [h1] at h
        | some a =>
          cases h2 : eqL (k' :: ks) xs ys with
          | none => simp [h1, h2] at h
          | some c =>
            simp [h1, h2] at h
            exact ⟨x, xs, y, ys, a, c, rfl, rfl, h1, h2, h.symm⟩
theorem eqL_nil {xs ys : List D} {b : Bool} (h : eqL [] xs ys = some b) : xs = [] ∧ ys = [] ∧ b = true := by
  cases xs <;> cases ys <;> simp [eqL] at h
  exact ⟨rfl, rfl, h⟩
theorem eqL_unD : ∀ {ks : List Nat} {xs ys : List D} {b : Bool}, eqL ks xs ys = some b → xs = xs.map (fun x => .v (unD x)) ∧ ys = ys.map (fun x => .v (unD x))
  | [], xs, ys, b, h => by
    obtain ⟨rfl, rfl, _⟩ := eqL_nil h
    exact ⟨rfl, rfl⟩
  | k :: ks, xs, ys, b, h => by
    obtain ⟨x, xs, y, ys, a, c, rfl, rfl, ha, hc, _⟩ := eqL_cons h
    obtain ⟨e1, e2⟩ := eqV_unD ha
    obtain ⟨f1, f2⟩ := eqL_unD hc
    exact ⟨by rw [List.map_cons, ← e1, ← f1], by rw [List.map_cons, ← e2, ← f2]⟩
theorem flatGo_run (m : Nat) : ∀ {fs : List Field} {o : Nat} {ks : List Nat} {xs ys : List D} {b : Bool} {us vs : Array Value}, flatGo P fs o ks = true → eqL ks xs ys = some b → (∀ j, j < xs.length → us[o + j]? = some (unD (xs.getD j (.v undef)))) → (∀ j, j < ys.length → vs[o + j]? = some (unD (ys.getD j (.v undef)))) →
    (Op.eqFields (m + 1) us vs fs).run P w = .ok b w
  | [], _, [], xs, ys, b, us, vs, _, h, _, _ => by
    obtain ⟨_, _, rfl⟩ := eqL_nil h
    rw [Op.eqFields]; simp
  | [], _, k :: ks, _, _, _, _, _, hg, _, _, _ => by simp [flatGo] at hg
  | f :: fs, o, [], _, _, _, _, _, hg, _, _, _ => by simp [flatGo] at hg
  | f :: fs, o, k :: ks, xs, ys, b, us, vs, hg, h, hu, hv => by
    obtain ⟨x, xs, y, ys, a, c, rfl, rfl, ha, hc, h⟩ := eqL_cons h
    simp only [flatGo, Bool.and_eq_true, bne_iff_ne, Nat.blt_eq] at hg
    obtain ⟨⟨⟨⟨h1, h2⟩, h3⟩, h4⟩, h5⟩ := hg
    have h2 := Nat.eq_of_beq_eq_true h2
    have h3 := Nat.eq_of_beq_eq_true h3
    have p1 := part_tag (w := w) h3 h4 (hu 0 (by simp))
    have p2 := part_tag (w := w) h3 h4 (hv 0 (by simp))
    rw [Nat.add_zero, ← h2] at p1 p2
    have q := eqV_run (w := w) ha h3 m
    have hr := flatGo_run m (us := us) (vs := vs) h5 hc (fun j hj => by have := hu (j + 1) (by simpa using hj); rw [show o + 1 + j = o + (j + 1) by omega, this]; rfl)
      (fun j hj => by have := hv (j + 1) (by simpa using hj); rw [show o + 1 + j = o + (j + 1) by omega, this]; rfl)
    rw [Op.eqFields, if_pos h1]
    simp only [Sem.run_bind, p1, p2, Result.andThen_ok]
    have e1 : (x :: xs).getD 0 (.v undef) = x := rfl
    have e2 : (y :: ys).getD 0 (.v undef) = y := rfl
    rw [e1, e2, q, h]
    cases a with
    | false => simp
    | true => simpa using hr
theorem rds_unD {xs : List D} {vs : List Value} (h : RDs w F xs vs) (he : xs = xs.map (fun x => .v (unD x))) : ∀ j, j < xs.length → vs[j]? = some (unD (xs.getD j (.v undef))) := fun j hj => by
  obtain ⟨v, h1, h2, _⟩ := h.get (List.getElem?_eq_getElem hj)
  have : xs[j] = .v (unD xs[j]) := by
    have := congrArg (fun l => l[j]?) he
    simp only [List.getElem?_map, List.getElem?_eq_getElem hj, Option.map_some] at this
    injection this
  rw [this] at h2
  cases h2
  rw [h1]
  simp [List.getD, List.getElem?_eq_getElem hj]
theorem run_flat {ks : List Nat} {xs ys : List D} {b : Bool} (ht : flatB P t ks = true) (h : eqL ks xs ys = some b) {u v : Value} (hu : RA w F ρ (.d (.agg xs)) u) (hv : RA w F ρ (.d (.agg ys)) v) :
    ∃ us vs, u = .agg us ∧ v = .agg vs ∧ P.eqGuardType P.depth t = false ∧ (Op.equalIn 10000 t u v).run P w = .ok b w := by
  cases hu with | d hu =>
  cases hu with | agg hu =>
  cases hv with | d hv =>
  cases hv with | agg hv =>
  unfold flatB at ht
  split at ht
  · rename_i fs hfs
    simp only [Bool.and_eq_true, Bool.not_eq_true'] at ht
    obtain ⟨⟨h1, h2⟩, h3⟩ := ht
    obtain ⟨e1, e2⟩ := eqL_unD h
    have hff : P.fieldsOf t = fs := by simp [Program.fieldsOf, hfs]
    refine ⟨_, _, rfl, rfl, h2, ?_⟩
    rw [run_equalIn_struct w 9999 t _ _ (by rw [hff]; exact hfs) h1, hff]
    exact flatGo_run 9998 h3 h (fun j hj => by rw [Nat.zero_add, List.getElem?_toArray]; exact rds_unD hu e1 j hj) (fun j hj => by rw [Nat.zero_add, List.getElem?_toArray]; exact rds_unD hv e2 j hj)
  · cases ht
/-- Two structs of numbers, truth values and strings. -/
theorem eqF (ks : List Nat) {xs ys : List D} {b : Bool} (ht : flatB P t ks = true) (h : eqL ks xs ys = some b) : Does P (.binOp .eql t x y t') ty L n [.d (.agg xs), .d (.agg ys)] e0 (.d (.v (.bool b))) :=
  does_ra2 rfl fun o w F ρ ev u v ho h1 h2 hu hv => by
    obtain ⟨us, vs, rfl, rfl, hg, hr⟩ := run_flat (w := w) ht h hu hv
    exact exec_eq ho h1 h2 (run_eqGuard_agg w .eql t x y us vs hg) (by rw [run_eql_struct, hr]; rfl)
theorem neF (ks : List Nat) {xs ys : List D} {b : Bool} (ht : flatB P t ks = true) (h : eqL ks xs ys = some b) : Does P (.binOp .neq t x y t') ty L n [.d (.agg xs), .d (.agg ys)] e0 (.d (.v (.bool (!b)))) :=
  does_ra2 rfl fun o w F ρ ev u v ho h1 h2 hu hv => by
    obtain ⟨us, vs, rfl, rfl, hg, hr⟩ := run_flat (w := w) ht h hu hv
    exact exec_eq ho h1 h2 (run_eqGuard_agg w .neq t x y us vs hg) (by rw [run_neq_struct, hr]; rfl)
end
end Go.Proofs.Ytgidaifoiljgoaa
/- The document's clock: At of a sample, New, gaps, Add, At. -/
namespace Go.Proofs.Ytgidaifoiljgoaa
set_option linter.unusedSimpArgs false
set_option linter.unusedVariables false
open Go.RowKit
set_option maxRecDepth 100000
theorem refTime_sat (v : Int) : Sat Try.prog 52 [iA v] [] (bA (isT v)) [] := by
  by_cases h : 0 ≤ v ∧ v ≤ 4611686018427387903
  · rw [show isT v = true from decide_eq_true h]
    refine sat_of_vc (T := tiOf Try.prog) (E := E0) Try.func52 rfl rfl hE0 hm0 rfl ?_
    conv => whnf
    repeat (any_goals (first
      | exact True.intro
      | (refine Or.inl ?_; conv => whnf)
      | (refine And.intro (fun _ => ?_) tf; conv => whnf)
      | (refine And.intro ft (fun _ => ?_); conv => whnf)
      | (refine And.intro (by kernel_rfl) ?_; conv => whnf)
      | (refine And.intro (by decide) ?_; conv => whnf)
      | (refine And.intro (fun _ => ?_) (fun h => absurd h (by decide)); conv => whnf)
      | (refine And.intro (fun h => absurd h (by decide)) (fun _ => ?_); conv => whnf)
      | (refine And.intro (fun _ => ?_) (fun _ => ?_) <;> conv => whnf)))
    all_goals try (exfalso; simp only [decide_eq_true_eq, decide_eq_false_iff_not, Bool.not_eq_true', Bool.not_eq_false', Bool.not_eq_true, Bool.not_eq_false, beq_iff_eq, bne_iff_ne, beq_eq_false_iff_ne, bne_eq_false_iff_eq, ne_eq, Decidable.not_not] at *; first | omega | contradiction | (simp_all; done) | (simp_all; omega))
    all_goals refine ⟨[], ?_⟩
    repeat (any_goals (first | exact True.intro | exact rfl | with_reducible_and_instances rfl | exact (by kernel_rfl) | refine And.intro ?_ ?_))
    all_goals conv => whnf
    rw [decide_eq_true h.2]
  · rw [show isT v = false from decide_eq_false h]
    refine sat_of_vc (T := tiOf Try.prog) (E := E0) Try.func52 rfl rfl hE0 hm0 rfl ?_
    conv => whnf
    repeat (any_goals (first
      | exact True.intro
      | (refine Or.inl ?_; conv => whnf)
      | (refine And.intro (fun _ => ?_) tf; conv => whnf)
      | (refine And.intro ft (fun _ => ?_); conv => whnf)
      | (refine And.intro (by kernel_rfl) ?_; conv => whnf)
      | (refine And.intro (by decide) ?_; conv => whnf)
      | (refine And.intro (fun _ => ?_) (fun h => absurd h (by decide)); conv => whnf)
      | (refine And.intro (fun h => absurd h (by decide)) (fun _ => ?_); conv => whnf)
      | (refine And.intro (fun _ => ?_) (fun _ => ?_) <;> conv => whnf)))
    · all_goals refine ⟨[], ?_⟩
      repeat (any_goals (first | exact True.intro | exact rfl | with_reducible_and_instances rfl | exact (by kernel_rfl) | refine And.intro ?_ ?_))
      all_goals conv => whnf
      have := of_decide_eq_true ‹decide (v ≥ 0) = true›
      rw [decide_eq_false (by omega)]
    · all_goals refine ⟨[], ?_⟩
      repeat (any_goals (first | exact True.intro | exact rfl | with_reducible_and_instances rfl | exact (by kernel_rfl) | refine And.intro ?_ ?_))
      all_goals conv => whnf
theorem refOkS_sat (s : Smp) : Sat Try.prog 47 [sA s] [] (bA (okS s)) [] := by
  have t1 := refTime_sat s.asked
  have t2 := refTime_sat s.got
  have t3 := refTime_sat s.sent
  have t4 := refTime_sat s.came
  refine sat_of_vc (T := tiOf Try.prog) (E := E0) Try.func47 rfl rfl hE0 hm0 rfl ?_
  conv => whnf
  repeat (any_goals (first
    | exact True.intro
    | (refine Or.inl ?_; conv => whnf)
    | (refine And.intro (fun _ => ?_) tf; conv => whnf)
    | (refine And.intro ft (fun _ => ?_); conv => whnf)
    | (refine And.intro (by kernel_rfl) ?_; conv => whnf)
    | (refine And.intro (by decide) ?_; conv => whnf)
    | (refine And.intro (fun _ => ?_) (fun h => absurd h (by decide)); conv => whnf)
    | (refine And.intro (fun h => absurd h (by decide)) (fun _ => ?_); conv => whnf)
    | (refine And.intro (fun _ => ?_) (fun _ => ?_) <;> conv => whnf)
    | (refine ⟨_, _, t1.pu rfl rfl, ?_⟩; conv => whnf)
    | (refine ⟨_, _, t2.pu rfl rfl, ?_⟩; conv => whnf)
    | (refine ⟨_, _, t3.pu rfl rfl, ?_⟩; conv => whnf)
    | (refine ⟨_, _, t4.pu rfl rfl, ?_⟩; conv => whnf)))
  · rw [show okS s = decide (s.got ≤ s.sent) from by unfold okS; simp_all]
    all_goals refine ⟨[], ?_⟩
    repeat (any_goals (first | exact True.intro | exact rfl | with_reducible_and_instances rfl | exact (by kernel_rfl) | refine And.intro ?_ ?_))
    all_goals conv => whnf
  all_goals rw [show okS s = false from by unfold okS; simp_all <;> omega]
  all_goals refine ⟨[], ?_⟩
  repeat (any_goals (first | exact True.intro | exact rfl | with_reducible_and_instances rfl | exact (by kernel_rfl) | refine And.intro ?_ ?_))
  all_goals conv => whnf
theorem refSum_sat (a b : Int) (ha : -9223372036854775808 ≤ a ∧ a ≤ 9223372036854775807) (hb : -9223372036854775808 ≤ b ∧ b ≤ 9223372036854775807) : Sat Try.prog 73 [iA a, iA b] [] (.d (numD (a + b))) [] := by
  have oa := of_num a ha
  have ob := of_num b hb
  have ad := add_few (k := 4) (by omega) (few_i64 ha) (few_i64 hb)
  refine sat_of_vc (T := tiOf Try.prog) (E := E0) Try.func73 rfl rfl hE0 hm0 rfl ?_
  conv => whnf
  repeat (any_goals (first
    | exact True.intro
    | (refine Or.inl ?_; conv => whnf)
    | (refine And.intro (fun _ => ?_) tf; conv => whnf)
    | (refine And.intro ft (fun _ => ?_); conv => whnf)
    | (refine And.intro (by kernel_rfl) ?_; conv => whnf)
    | (refine And.intro (by decide) ?_; conv => whnf)
    | (refine And.intro (fun _ => ?_) (fun h => absurd h (by decide)); conv => whnf)
    | (refine And.intro (fun h => absurd h (by decide)) (fun _ => ?_); conv => whnf)
    | (refine And.intro (fun _ => ?_) (fun _ => ?_) <;> conv => whnf)
    | (refine ⟨_, _, oa.pu rfl rfl, ?_⟩; conv => whnf)
    | (refine ⟨_, _, ob.pu rfl rfl, ?_⟩; conv => whnf)
    | (refine ⟨_, _, ad.pu rfl rfl, ?_⟩; conv => whnf)))
  all_goals refine ⟨[], ?_⟩
  repeat (any_goals (first | exact True.intro | exact rfl | with_reducible_and_instances rfl | exact (by kernel_rfl) | refine And.intro ?_ ?_))
  all_goals conv => whnf
theorem few0 {k : Nat} : few k 0 := by unfold few; exact Nat.pow_pos (by omega)
theorem refAt_sat (s : Smp) (stamp rho : Int) (h1 : -9223372036854775808 ≤ stamp) (h2 : stamp ≤ 9223372036854775807) : Sat Try.prog 50 [sA s, iA stamp, iA rho] [] (.tup [gA (atR s stamp rho).1, iA (atR s stamp rho).2]) [] := by
  have ok := refOkS_sat s
  have ti := refTime_sat stamp
  have ra := refRate_sat rho
  by_cases hs : okS s = true
  case neg =>
    have hs : okS s = false := by simpa using hs
    have hr : atR s stamp rho = ((0, 0), 10) := if_pos hs
    rw [hr]
    refine sat_of_vc (T := tiOf Try.prog) (E := E0) Try.func50 rfl rfl hE0 hm0 rfl ?_
    conv => whnf
    repeat (any_goals (first
      | exact True.intro
      | (refine Or.inl ?_; conv => whnf)
      | (refine And.intro (fun _ => ?_) tf; conv => whnf)
      | (refine And.intro ft (fun _ => ?_); conv => whnf)
      | (refine And.intro (by kernel_rfl) ?_; conv => whnf)
      | (refine And.intro (by decide) ?_; conv => whnf)
      | (refine And.intro (fun _ => ?_) (fun h => absurd h (by decide)); conv => whnf)
      | (refine And.intro (fun h => absurd h (by decide)) (fun _ => ?_); conv => whnf)
      | (refine And.intro (fun _ => ?_) (fun _ => ?_) <;> conv => whnf)
      | (refine ⟨_, _, ok.pu rfl rfl, ?_⟩; conv => whnf)))
    all_goals try (exfalso; simp only [decide_eq_true_eq, decide_eq_false_iff_not, Bool.not_eq_true', Bool.not_eq_false', Bool.not_eq_true, Bool.not_eq_false, beq_iff_eq, bne_iff_ne, beq_eq_false_iff_ne, bne_eq_false_iff_eq, ne_eq, Decidable.not_not] at *; first | omega | contradiction | (simp_all; done) | (simp_all; omega))
    all_goals refine ⟨[], ?_⟩
    repeat (any_goals (first | exact True.intro | exact rfl | with_reducible_and_instances rfl | exact (by kernel_rfl) | refine And.intro ?_ ?_))
    all_goals conv => whnf
  by_cases ht : isT stamp = true ∧ okRate rho = true
  case neg =>
    have hr : atR s stamp rho = ((0, 0), 11) := by
      unfold atR
      rw [if_neg (by simp [hs]), if_pos]
      cases q : isT stamp <;> cases q' : okRate rho <;> simp_all
    rw [hr]
    refine sat_of_vc (T := tiOf Try.prog) (E := E0) Try.func50 rfl rfl hE0 hm0 rfl ?_
    conv => whnf
    repeat (any_goals (first
      | exact True.intro
      | (refine Or.inl ?_; conv => whnf)
      | (refine And.intro (fun _ => ?_) tf; conv => whnf)
      | (refine And.intro ft (fun _ => ?_); conv => whnf)
      | (refine And.intro (by kernel_rfl) ?_; conv => whnf)
      | (refine And.intro (by decide) ?_; conv => whnf)
      | (refine And.intro (fun _ => ?_) (fun h => absurd h (by decide)); conv => whnf)
      | (refine And.intro (fun h => absurd h (by decide)) (fun _ => ?_); conv => whnf)
      | (refine And.intro (fun _ => ?_) (fun _ => ?_) <;> conv => whnf)
      | (refine ⟨_, _, ok.pu rfl rfl, ?_⟩; conv => whnf)
      | (refine ⟨_, _, ti.pu rfl rfl, ?_⟩; conv => whnf)
      | (refine ⟨_, _, ra.pu rfl rfl, ?_⟩; conv => whnf)))
    all_goals try (exfalso; simp only [decide_eq_true_eq, decide_eq_false_iff_not, Bool.not_eq_true', Bool.not_eq_false', Bool.not_eq_true, Bool.not_eq_false, beq_iff_eq, bne_iff_ne, beq_eq_false_iff_ne, bne_eq_false_iff_eq, ne_eq, Decidable.not_not] at *; first | omega | contradiction | (simp_all; done) | (simp_all; omega))
    all_goals refine ⟨[], ?_⟩
    repeat (any_goals (first | exact True.intro | exact rfl | with_reducible_and_instances rfl | exact (by kernel_rfl) | refine And.intro ?_ ?_))
    all_goals conv => whnf
  obtain ⟨n1, n2⟩ := lowIn s stamp rho hs ht.1 ht.2
  have hst := of_decide_eq_true ht.1
  have hs' := hs
  simp [okS, isT] at hs'
  have b1 := lowZ_bounds (stamp - s.got) rho n1 ht.2
  have n3 : nearX (-(stamp - s.sent)) = true := by have := of_decide_eq_true n2; exact decide_eq_true (by omega)
  have b2 := lowZ_bounds (-(stamp - s.sent)) rho n3 ht.2
  have lo := refLow_sat (stamp - s.got) rho n1 ht.2
  have hi := refHigh_sat (stamp - s.sent) rho n2 ht.2
  have hhz : highZ (stamp - s.sent) rho = -lowZ (-(stamp - s.sent)) rho := rfl
  have w1 : IntKind.i64.wrap (stamp - s.got) = stamp - s.got := wi (by omega) (by omega)
  have w2 : IntKind.i64.wrap (stamp - s.sent) = stamp - s.sent := wi (by omega) (by omega)
  have s1 := refSum_sat s.asked (lowZ (stamp - s.got) rho) (by omega) (by omega)
  have s2 := refSum_sat s.came (highZ (stamp - s.sent) rho) (by omega) (by omega)
  have o0 := of_num 0 (by omega)
  have oM := of_num 4611686018427387903 (by omega)
  generalize hA : s.asked + lowZ (stamp - s.got) rho = A at *
  generalize hB : s.came + highZ (stamp - s.sent) rho = B at *
  have fA : few 5 A := few_mono (few_i64 (z := A) (by omega)) (by omega)
  have fB : few 5 B := by show B.natAbs < 1208925819614629174706176; omega
  have fM : few 5 4611686018427387903 := few_mono (few_i64 (by omega)) (by omega)
  have c1 := cmp_num (k := 5) (by omega) fA (few0 (k := 5))
  have c2 := cmp_num (k := 5) (by omega) fB fM
  have eLo : atLo s stamp rho = max A 0 := by unfold atLo; rw [hA]
  have eHi : atHi s stamp rho = min B 4611686018427387903 := by unfold atHi; rw [hB]
  have fa : few 5 (max A 0) := few_mono (few_i64 (z := max A 0) (by omega)) (by omega)
  have fb : few 5 (min B 4611686018427387903) := few_mono (few_i64 (z := min B 4611686018427387903) (by omega)) (by omega)
  have c3 := cmp_num (k := 5) (by omega) fa fb
  have l1 := long_num (max A 0) (by have := few_len fa; omega)
  have l2 := long_num (min B 4611686018427387903) (by have := few_len fb; omega)
  rw [longZ_in (by omega)] at l1 l2
  have hr : atR s stamp rho = if min B 4611686018427387903 < max A 0 then ((0, 0), 13) else ((max A 0, min B 4611686018427387903), 0) := by
    unfold atR
    rw [if_neg (by simp [hs]), if_neg (by simp [ht.1, ht.2]), eLo, eHi]
  rw [hr]
  refine sat_of_vc (T := tiOf Try.prog) (E := E0) Try.func50 rfl rfl hE0 hm0 rfl ?_
  conv => whnf
  repeat (any_goals (first
    | exact True.intro
    | (refine And.intro (fun _ => ?_) tf; conv => whnf)
    | (refine And.intro ft (fun _ => ?_); conv => whnf)
    | (refine And.intro (by kernel_rfl) ?_; conv => whnf)
    | (refine And.intro (by decide) ?_; conv => whnf)
    | (refine And.intro (fun _ => ?_) (fun h => absurd h (by decide)); conv => whnf)
    | (refine And.intro (fun h => absurd h (by decide)) (fun _ => ?_); conv => whnf)
    | (refine And.intro (fun _ => ?_) (fun _ => ?_) <;> conv => whnf)))
  all_goals try (refine Or.inl ?_; conv => whnf)
  repeat (any_goals (first
    | exact True.intro
    | (refine And.intro (fun _ => ?_) tf; conv => whnf)
    | (refine And.intro ft (fun _ => ?_); conv => whnf)
    | (refine And.intro (by kernel_rfl) ?_; conv => whnf)
    | (refine And.intro (by decide) ?_; conv => whnf)
    | (refine And.intro (fun _ => ?_) (fun h => absurd h (by decide)); conv => whnf)
    | (refine And.intro (fun h => absurd h (by decide)) (fun _ => ?_); conv => whnf)
    | (refine And.intro (fun _ => ?_) (fun _ => ?_) <;> conv => whnf)
    | (refine ⟨_, _, ok.pu rfl rfl, ?_⟩; conv => whnf)))
  all_goals try (exfalso; simp only [decide_eq_true_eq, decide_eq_false_iff_not, Bool.not_eq_true', Bool.not_eq_false', Bool.not_eq_true, Bool.not_eq_false, beq_iff_eq, bne_iff_ne, beq_eq_false_iff_ne, bne_eq_false_iff_eq, ne_eq, Decidable.not_not] at *; first | omega | contradiction | (simp_all; done) | (simp_all; omega))
  all_goals try (refine Or.inl ?_; conv => whnf)
  repeat (any_goals (first
    | exact True.intro
    | (refine And.intro (fun _ => ?_) tf; conv => whnf)
    | (refine And.intro ft (fun _ => ?_); conv => whnf)
    | (refine And.intro (by kernel_rfl) ?_; conv => whnf)
    | (refine And.intro (by decide) ?_; conv => whnf)
    | (refine And.intro (fun _ => ?_) (fun h => absurd h (by decide)); conv => whnf)
    | (refine And.intro (fun h => absurd h (by decide)) (fun _ => ?_); conv => whnf)
    | (refine And.intro (fun _ => ?_) (fun _ => ?_) <;> conv => whnf)
    | (refine ⟨_, _, ti.pu rfl rfl, ?_⟩; conv => whnf)
    | (refine ⟨_, _, ra.pu rfl rfl, ?_⟩; conv => whnf)))
  all_goals try (exfalso; simp only [decide_eq_true_eq, decide_eq_false_iff_not, Bool.not_eq_true', Bool.not_eq_false', Bool.not_eq_true, Bool.not_eq_false, beq_iff_eq, bne_iff_ne, beq_eq_false_iff_ne, bne_eq_false_iff_eq, ne_eq, Decidable.not_not] at *; first | omega | contradiction | (simp_all; done) | (simp_all; omega))
  all_goals try (refine Or.inl ?_; conv => whnf)
  repeat (any_goals (first
    | exact True.intro
    | (refine And.intro (fun _ => ?_) tf; conv => whnf)
    | (refine And.intro ft (fun _ => ?_); conv => whnf)
    | (refine And.intro (by kernel_rfl) ?_; conv => whnf)
    | (refine And.intro (by decide) ?_; conv => whnf)
    | (refine And.intro (fun _ => ?_) (fun h => absurd h (by decide)); conv => whnf)
    | (refine And.intro (fun h => absurd h (by decide)) (fun _ => ?_); conv => whnf)
    | (rw [w1]; conv => whnf)
    | (rw [w2]; conv => whnf)
    | (refine And.intro (fun _ => ?_) (fun _ => ?_) <;> conv => whnf)
    | (refine ⟨_, _, lo.pu rfl rfl, ?_⟩; conv => whnf)
    | (refine ⟨_, _, hi.pu rfl rfl, ?_⟩; conv => whnf)
    | (refine ⟨_, _, s1.pu rfl rfl, ?_⟩; conv => whnf)
    | (refine ⟨_, _, s2.pu rfl rfl, ?_⟩; conv => whnf)
    | (refine ⟨_, _, c1.pu rfl rfl, ?_⟩; conv => whnf)
    | (refine ⟨_, _, o0.pu rfl rfl, ?_⟩; conv => whnf)))
  refine Or.inr ⟨Unit, fun _ => True, fun _ => ([(3, .ptr 0 0), (6, .ptr 1 0), (12, .ptr 2 0), (13, .ptr 3 0)], [.cells [iA s.asked, iA s.got, iA s.sent, iA s.came], .cells [iA 0, iA 0], .cells [bA (decide (max A 0 < 0)), .d (lD (canL (max A 0).natAbs))], .cells [bA (decide (B < 0)), .d (lD (canL B.natAbs))]]), ?_, fun _ _ => ?_⟩
  · repeat (any_goals (first
      | exact True.intro
      | (refine And.intro (fun _ => ?_) tf; conv => whnf)
      | (refine And.intro ft (fun _ => ?_); conv => whnf)
      | (refine And.intro (by kernel_rfl) ?_; conv => whnf)
      | (refine And.intro (by decide) ?_; conv => whnf)
      | (refine And.intro (fun _ => ?_) (fun h => absurd h (by decide)); conv => whnf)
      | (refine And.intro (fun h => absurd h (by decide)) (fun _ => ?_); conv => whnf)
      | (refine And.intro (fun _ => ?_) (fun _ => ?_) <;> conv => whnf)
      | (refine ⟨_, _, o0.pu rfl rfl, ?_⟩; conv => whnf)
      | (refine ⟨_, _, c1.pu rfl rfl, ?_⟩; conv => whnf)))
    · have h : A < 0 := by have h := of_decide_eq_true ‹decide (cmpZ A 0 < 0) = true›; unfold cmpZ at h; split at h <;> (try split at h) <;> omega
      refine ⟨(), trivial, ?_⟩
      rw [Int.max_eq_right (by omega)]
      all_goals refine ⟨[], ?_⟩
      repeat (any_goals (first | exact True.intro | exact rfl | with_reducible_and_instances rfl | exact (by kernel_rfl) | refine And.intro ?_ ?_))
      all_goals conv => whnf
    · have h : 0 ≤ A := by have h := of_decide_eq_false ‹decide (cmpZ A 0 < 0) = false›; unfold cmpZ at h; split at h <;> (try split at h) <;> omega
      refine ⟨(), trivial, ?_⟩
      rw [Int.max_eq_left (by omega)]
      all_goals refine ⟨[], ?_⟩
      repeat (any_goals (first | exact True.intro | exact rfl | with_reducible_and_instances rfl | exact (by kernel_rfl) | refine And.intro ?_ ?_))
      all_goals conv => whnf
  · repeat (any_goals (first
      | exact True.intro
      | (refine And.intro (fun _ => ?_) tf; conv => whnf)
      | (refine And.intro ft (fun _ => ?_); conv => whnf)
      | (refine And.intro (by kernel_rfl) ?_; conv => whnf)
      | (refine And.intro (by decide) ?_; conv => whnf)
      | (refine And.intro (fun _ => ?_) (fun h => absurd h (by decide)); conv => whnf)
      | (refine And.intro (fun h => absurd h (by decide)) (fun _ => ?_); conv => whnf)
      | (refine And.intro (fun _ => ?_) (fun _ => ?_) <;> conv => whnf)
      | (refine ⟨_, _, oM.pu rfl rfl, ?_⟩; conv => whnf)))
    refine Or.inr ⟨Unit, fun _ => True, fun _ => ([(3, .ptr 0 0), (6, .ptr 1 0), (12, .ptr 2 0), (13, .ptr 3 0)], [.cells [iA s.asked, iA s.got, iA s.sent, iA s.came], .cells [iA 0, iA 0], .cells [bA (decide (max A 0 < 0)), .d (lD (canL (max A 0).natAbs))], .cells [bA (decide (min B 4611686018427387903 < 0)), .d (lD (canL (min B 4611686018427387903).natAbs))]]), ?_, fun _ _ => ?_⟩
    · repeat (any_goals (first
        | exact True.intro
        | (refine And.intro (fun _ => ?_) tf; conv => whnf)
        | (refine And.intro ft (fun _ => ?_); conv => whnf)
        | (refine And.intro (by kernel_rfl) ?_; conv => whnf)
        | (refine And.intro (by decide) ?_; conv => whnf)
        | (refine And.intro (fun _ => ?_) (fun h => absurd h (by decide)); conv => whnf)
        | (refine And.intro (fun h => absurd h (by decide)) (fun _ => ?_); conv => whnf)
        | (refine And.intro (fun _ => ?_) (fun _ => ?_) <;> conv => whnf)
        | (refine ⟨_, _, c2.pu rfl rfl, ?_⟩; conv => whnf)))
      · have h : 4611686018427387903 < B := by have h := of_decide_eq_true ‹decide (cmpZ B 4611686018427387903 > 0) = true›; unfold cmpZ at h; split at h <;> (try split at h) <;> omega
        refine ⟨(), trivial, ?_⟩
        rw [Int.min_eq_right (by omega)]
        all_goals refine ⟨[], ?_⟩
        repeat (any_goals (first | exact True.intro | exact rfl | with_reducible_and_instances rfl | exact (by kernel_rfl) | refine And.intro ?_ ?_))
        all_goals conv => whnf
      · have h : B ≤ 4611686018427387903 := by have h := of_decide_eq_false ‹decide (cmpZ B 4611686018427387903 > 0) = false›; unfold cmpZ at h; split at h <;> (try split at h) <;> omega
        refine ⟨(), trivial, ?_⟩
        rw [Int.min_eq_left (by omega)]
        all_goals refine ⟨[], ?_⟩
        repeat (any_goals (first | exact True.intro | exact rfl | with_reducible_and_instances rfl | exact (by kernel_rfl) | refine And.intro ?_ ?_))
        all_goals conv => whnf
    · repeat (any_goals (first
        | exact True.intro
        | (refine Or.inl ?_; conv => whnf)
        | (refine And.intro (fun _ => ?_) tf; conv => whnf)
        | (refine And.intro ft (fun _ => ?_); conv => whnf)
        | (refine And.intro (by kernel_rfl) ?_; conv => whnf)
        | (refine And.intro (by decide) ?_; conv => whnf)
        | (refine And.intro (fun _ => ?_) (fun h => absurd h (by decide)); conv => whnf)
        | (refine And.intro (fun h => absurd h (by decide)) (fun _ => ?_); conv => whnf)
        | (refine And.intro (fun _ => ?_) (fun _ => ?_) <;> conv => whnf)
        | (refine ⟨_, _, c3.pu rfl rfl, ?_⟩; conv => whnf)
        | (refine ⟨_, _, l1.pu rfl rfl, ?_⟩; conv => whnf)
        | (refine ⟨_, _, l2.pu rfl rfl, ?_⟩; conv => whnf)))
      · have h : min B 4611686018427387903 < max A 0 := by have h := of_decide_eq_true ‹decide (cmpZ (max A 0) (min B 4611686018427387903) > 0) = true›; unfold cmpZ at h; split at h <;> (try split at h) <;> omega
        rw [if_pos h]
        all_goals refine ⟨[], ?_⟩
        repeat (any_goals (first | exact True.intro | exact rfl | with_reducible_and_instances rfl | exact (by kernel_rfl) | refine And.intro ?_ ?_))
        all_goals conv => whnf
      · have h : ¬ min B 4611686018427387903 < max A 0 := by have h := of_decide_eq_false ‹decide (cmpZ (max A 0) (min B 4611686018427387903) > 0) = false›; unfold cmpZ at h; split at h <;> (try split at h) <;> omega
        rw [if_neg h]
        all_goals refine ⟨[], ?_⟩
        repeat (any_goals (first | exact True.intro | exact rfl | with_reducible_and_instances rfl | exact (by kernel_rfl) | refine And.intro ?_ ?_))
        all_goals conv => whnf
end Go.Proofs.Ytgidaifoiljgoaa
