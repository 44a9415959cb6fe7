/- Parts VcT, VcX, VcU, VcV, VcW, VcY, Vs, Ab, Ra, Rb, Rc, Rd, Re, Rf, Rg, Rh, Ri, Rj2, Rj, Rk, Rl0, Hd, Hs, HistI, Hr, CeA, CeB, HistG, Gap, HistF, Use, CodePlain, CodeA, CodeB, CodeC, CodeD, Str, CodeE, CodeF, HistH, Hk of the proof, put together. -/
import Derived.Test.YtbjmdnemeidpjaaM5
import Derived.ChangeKeysEq
import Derived.Laws.StructEq
import Derived.Test.YtbjmdnemeidpjaaProg
import Derived.KernelRfl
import Derived.RangeFuncNested
import Derived.RangeFuncBound
import Derived.RangeFuncCalls
import Derived.RangeFuncLeaves
import Derived.Shelf.Abstract
import Derived.Shelf.RegionOpen
import Derived.OwnWalkIn
import Derived.TacticsInMore
import Derived.LoopNIn
import Derived.LoopIn
import Derived.Test.YtbjmdnemeidpjaaShelf
import Derived.Laws.BitsAllLaws
import Derived.WalkKit
import Derived.Lib.AppendStr
import Derived.Laws.IdiomStrings
import Derived.Lib.BufferRead
import Derived.Outline
import Derived.RangeFuncFrom
/- The arguments of a law, as data; from a law's contract to its statement. No program is named here. -/
namespace Go.Proofs.Ytbjmdnemeidpjaa
set_option linter.unusedSimpArgs false
set_option linter.unusedVariables false
open Go.ChangeShapes Go.WideShapes Go.ChangeAt Go.RowKit
def tileB (P : Program) : List Field → Nat → Nat → Bool
  | [], o, tot => Nat.beq o tot
  | f :: r, o, tot => Nat.beq f.offset o && tileB P r (o + P.cellsOf f.type) tot
/-- Types of plain data. -/
def supB (P : Program) : Nat → TypeId → Bool
  | 0, _ => false
  | m + 1, t => match P.underlying t with
    | some .bool => true
    | some (.int _) => true
    | some .string => true
    | some (.slice e) => supB P m e && Nat.blt 0 (P.cellsOf e)
    | some (.struct fs) => tileB P fs.toList 0 (P.cellsOf t) && fs.toList.all fun f => supB P m f.type
    | some (.array n e) => supB P m e && Nat.beq (n * P.cellsOf e) (P.cellsOf t)
    | _ => false
def TyAll (p : TypeId → List D → Prop) : List TypeId → List (List D) → Prop
  | [], dss => dss = []
  | t :: ts, dss => ∃ d r, dss = d :: r ∧ p t d ∧ TyAll p ts r
/-- What cells of a type of plain data look like. -/
def TyB (p : TypeId → List D → Prop) (P : Program) (t : TypeId) (ds : List D) : Prop :=
  match P.underlying t with
    | some .bool => ∃ b, ds = [.v (.bool b)]
    | some (.int k) => ∃ z, ds = [.v (.int k z)] ∧ (Lit.int k z).wf = true
    | some .string => ∃ s, ds = [.v (.string s)] ∧ s.size ≤ reachBytes
    | some (.slice e) => ∃ rows, ds = [.sl (P.cellsOf e) rows] ∧ (∀ r ∈ rows, p e r) ∧ rows.length * P.bytesOf e ≤ reachBytes
    | some (.struct fs) => ∃ dss, ds = dss.flatten ∧ TyAll p (fs.toList.map (·.type)) dss
    | some (.array n e) => ∃ dss : List (List D), ds = dss.flatten ∧ dss.length = n ∧ ∀ d ∈ dss, p e d
    | _ => False
def Ty (P : Program) : Nat → TypeId → List D → Prop
  | 0 => fun _ _ => False
  | m + 1 => TyB (Ty P m) P
theorem Ty.of {P : Program} {m : Nat} {t : TypeId} {ds : List D} {d : TypeDesc} (hu : P.underlying t = some d) (h : P.underlying t = some d → TyB (Ty P m) P t ds) : Ty P (m + 1) t ds := h hu
section
variable {H : Type} {enc : TypeId × Value → H} {P : Program} {w : World} {base : Nat}
theorem mapM_get {α β : Type} {f : α → Option β} : ∀ {l : List α} {ys : List β}, l.mapM f = some ys → ys.length = l.length ∧ ∀ (i : Nat) (x : α), l[i]? = some x → ∃ y, ys[i]? = some y ∧ f x = some y
  | [], ys, h => by simp at h; subst h; exact ⟨rfl, fun i x h => by simp at h⟩
  | a :: l, ys, h => by
    simp only [List.mapM_cons, Option.bind_eq_bind, Option.pure_def, Option.bind_eq_some_iff, Option.some.injEq] at h
    obtain ⟨y, h1, zs, h2, rfl⟩ := h
    obtain ⟨h3, h4⟩ := mapM_get h2
    refine ⟨by simp [h3], fun i x hx => ?_⟩
    cases i with
    | zero => simp at hx; subst hx; exact ⟨y, rfl, h1⟩
    | succ i => simpa using h4 i x (by simpa using hx)
def Fall (w : World) (b : Nat) : Prop := b < w.heap.size
theorem weightsAll_mem {e : TypeId} : ∀ {ds : List (DataW H)} {d : DataW H}, d ∈ ds → ∀ x ∈ d.weights P e, x ∈ DataW.weightsAll P e ds
  | [], _, h, _, _ => by simp at h
  | a :: r, d, h, x, hx => by
    rw [DataW.weightsAll]
    rcases List.mem_cons.1 h with e | e
    · subst e; exact List.mem_append_left _ hx
    · exact List.mem_append_right _ (weightsAll_mem e x hx)
theorem weightsEach_mem : ∀ {ts : List TypeId} {ds : List (DataW H)} {i : Nat} {t : TypeId} {d : DataW H}, ts[i]? = some t → ds[i]? = some d → ∀ x ∈ d.weights P t, x ∈ DataW.weightsEach P ts ds
  | [], _, _, _, _, h, _, _, _ => by simp at h
  | _ :: _, [], _, _, _, _, h, _, _ => by simp at h
  | t0 :: ts, d0 :: ds, 0, t, d, h1, h2, x, hx => by
    simp at h1 h2; subst h1 h2
    rw [DataW.weightsEach]; exact List.mem_append_left _ hx
  | t0 :: ts, d0 :: ds, i + 1, t, d, h1, h2, x, hx => by
    rw [DataW.weightsEach]; exact List.mem_append_right _ (weightsEach_mem (by simpa using h1) (by simpa using h2) x hx)
theorem tile_out {p : TypeId → List D → Prop} {F : Nat → Prop} : ∀ {fs : List Field} {o : Nat} {cs : List Value}, tileB P fs o cs.length = true →
    (∀ f ∈ fs, ∃ ds, RDs w F ds ((cs.drop f.offset).take (P.cellsOf f.type)) ∧ p f.type ds) → ∃ dss, RDs w F dss.flatten (cs.drop o) ∧ TyAll p (fs.map (·.type)) dss
  | [], o, cs, h, _ => by
    have := Nat.eq_of_beq_eq_true h
    subst this
    exact ⟨[], by simpa using RDs.nil, rfl⟩
  | f :: r, o, cs, h, hf => by
    simp only [tileB, Bool.and_eq_true] at h
    have := Nat.eq_of_beq_eq_true h.1
    subst this
    obtain ⟨ds, h1, h2⟩ := hf f (List.mem_cons_self ..)
    obtain ⟨dss, h3, h4⟩ := tile_out h.2 fun g hg => hf g (List.mem_cons_of_mem _ hg)
    refine ⟨ds :: dss, ?_, ds, dss, rfl, h2, h4⟩
    rw [List.flatten_cons]
    have := h1.app h3
    rw [← List.drop_drop, List.take_append_drop] at this
    exact this
theorem tile_arr {p : List D → Prop} {F : Nat → Prop} {s : Nat} : ∀ {n : Nat} {cs : List Value}, cs.length = n * s → (∀ i, i < n → ∃ ds, RDs w F ds ((cs.drop (i * s)).take s) ∧ p ds) → ∃ dss : List (List D), RDs w F dss.flatten cs ∧ dss.length = n ∧ ∀ d ∈ dss, p d
  | 0, cs, hl, _ => by
    have : cs = [] := List.eq_nil_of_length_eq_zero (by simpa using hl)
    subst this
    exact ⟨[], .nil, rfl, by simp⟩
  | n + 1, cs, hl, h => by
    obtain ⟨ds, h1, h2⟩ := h 0 (by omega)
    have hl' : (cs.drop s).length = n * s := by rw [List.length_drop, hl, Nat.add_mul]; omega
    obtain ⟨dss, h3, h4, h5⟩ := tile_arr hl' fun i hi => by
      obtain ⟨ds, h1, h2⟩ := h (i + 1) (by omega)
      exact ⟨ds, by rw [List.drop_drop, show s + i * s = (i + 1) * s by rw [Nat.add_mul]; omega]; exact h1, h2⟩
    refine ⟨ds :: dss, ?_, by simp [h4], fun d hd => (List.mem_cons.1 hd).elim (fun e => e ▸ h2) (h5 d)⟩
    rw [List.flatten_cons]
    have := h1.app h3
    simp only [Nat.zero_mul, List.drop_zero] at this
    rw [List.take_append_drop] at this
    exact this
theorem cells?_get {a : Addr} {n : Nat} {cs : List Value} (h : w.cells? 0 a n = some cs) : cs.length = n ∧ ∀ j (hj : j < cs.length), w.cell? (a.add j) = some cs[j] := by
  unfold World.cells? at h
  simp only [Nat.zero_le, if_true] at h
  obtain ⟨h1, h2⟩ := mapM_get h
  simp at h1
  refine ⟨h1, fun j hj => ?_⟩
  obtain ⟨y, h3, h4⟩ := h2 j j (by rw [List.getElem?_range (by omega)])
  rw [List.getElem?_eq_getElem hj] at h3
  injection h3 with h3
  rw [h3]; exact h4
/-- **Cells that read as plain data.** -/
theorem trod_ty : ∀ (m : Nat) (t : TypeId) (fuel : Nat) (cs : List Value) (d : DataW H) (ps : List MemPlace), supB P m t = true → DataW.trod enc P w 0 (fun _ => true) true fuel t cs = some (d, ps) → (∀ x ∈ d.weights P t, x ≤ reachBytes) →
    ∃ ds, RDs w (Fall w) ds cs ∧ Ty P m t ds
  | 0, t, _, _, _, _, hs, _, _ => by simp [supB] at hs
  | m + 1, t, 0, _, _, _, _, h, _ => by simp [DataW.trod] at h
  | m + 1, t, fuel + 1, cs, d, ps, hs, h, hw => by
    rw [supB] at hs
    cases hu : P.underlying t with
    | none => rw [hu] at hs; cases hs
    | some dsc =>
      rw [hu] at hs
      cases dsc <;> try (simp at hs; done)
      case bool =>
        unfold DataW.trod at h
        simp only [hu] at h
        split at h <;> try (simp at *; done)
        rename_i b _
        exact ⟨[.v (.bool b)], .cons (.v _) rfl .nil, by show TyB _ P t _; unfold TyB; rw [hu]; exact ⟨b, rfl⟩⟩
      case int k =>
        unfold DataW.trod at h
        simp only [hu] at h
        split at h <;> try (simp at *; done)
        rename_i k' k'' n e
        injection e with e; injection e with e; subst e
        split at h
        · rename_i hc
          obtain ⟨rfl, hwf⟩ := hc
          exact ⟨[.v (.int _ n)], .cons (.v _) rfl .nil, by show TyB _ P t _; unfold TyB; rw [hu]; exact ⟨n, rfl, hwf⟩⟩
        · cases h
      case string =>
        unfold DataW.trod at h
        simp only [hu] at h
        split at h <;> try (simp at *; done)
        rename_i s _
        split at h
        · injection h with h; injection h with h1 h2; subst h1
          refine ⟨[.v (.string s)], .cons (.v _) rfl .nil, by show TyB _ P t _; unfold TyB; rw [hu]; exact ⟨s, rfl, hw s.size (by simp [DataW.weights])⟩⟩
        · cases h
      case slice e =>
        simp only [Bool.and_eq_true, Nat.blt_eq] at hs
        unfold DataW.trod at h
        simp only [hu] at h
        split at h <;> try (simp at *; done)
        · exact ⟨[.sl (P.cellsOf e) []], .cons (.sl rfl (by simp) (Nat.le_refl _) (by simp [maxLen]) .nil (fun h => absurd h (by simp))) rfl .nil, by show TyB _ P t _; unfold TyB; rw [hu]; exact ⟨[], rfl, by simp, by simp⟩⟩
        · rename_i e' a len cap he
          injection he with he; injection he with he; subst he
          split at h
          · rename_i hc
            simp only [Option.bind_eq_some_iff, Option.map_eq_some_iff, if_true] at h
            obtain ⟨elems, h1, rest, h2, h3⟩ := h
            injection h3 with h3 h4
            subst h3
            obtain ⟨g1, g2⟩ := mapM_get h1
            simp at g1
            have hel : ∀ i, i < len → ∃ r, RDs w (Fall w) r (((List.range (P.cellsOf e)).map fun j => (w.cell? (a.add (i * P.cellsOf e + j))).getD undef)) ∧ Ty P m e r ∧ r.length = P.cellsOf e ∧ ∀ j, j < P.cellsOf e → (w.cell? (a.add (i * P.cellsOf e + j))).isSome = true := by
              intro i hi
              obtain ⟨y, q1, q2⟩ := g2 i i (by rw [List.getElem?_range hi])
              simp only [Option.bind_eq_some_iff] at q2
              obtain ⟨cs', q3, q4⟩ := q2
              obtain ⟨q5, q6⟩ := cells?_get q3
              have hcell : ∀ j (hj : j < cs'.length), w.cell? (a.add (i * P.cellsOf e + j)) = some cs'[j] := fun j hj => by
                rw [← q6 j hj]
                congr 1
                obtain ⟨b, off, sp⟩ := a
                unfold Addr.add
                split <;> split <;> split <;> simp_all <;> omega
              obtain ⟨r, q7, q8⟩ := trod_ty m e fuel cs' y.1 y.2 hs.1 q4 (fun x hx => hw x (by
                simp only [DataW.weights, hu]
                exact List.mem_cons_of_mem _ (List.mem_append_left _ (weightsAll_mem (List.mem_map.2 ⟨y, List.mem_of_getElem? q1, rfl⟩) x hx))))
              have hcs : ((List.range (P.cellsOf e)).map fun j => (w.cell? (a.add (i * P.cellsOf e + j))).getD undef) = cs' := by
                apply List.ext_getElem (by simp [q5])
                intro j h1 h2
                simp [hcell j h2]
              exact ⟨r, by rw [hcs]; exact q7, q8, by rw [← q5]; exact q7.length.symm, fun j hj => by rw [hcell j (by omega)]; rfl⟩
            have hcsl : ((List.range (len * P.cellsOf e)).map fun j => (w.cell? (a.add j)).getD undef).length = len * P.cellsOf e := by simp
            obtain ⟨dss, q1, q2, q3⟩ := tile_arr (w := w) (F := Fall w) (p := fun d => Ty P m e d ∧ d.length = P.cellsOf e) hcsl fun i hi => by
              obtain ⟨r, q1, q2, q3, q4⟩ := hel i hi
              refine ⟨r, ?_, q2, q3⟩
              have hmul : i * P.cellsOf e + P.cellsOf e ≤ len * P.cellsOf e := by rw [← Nat.succ_mul]; exact Nat.mul_le_mul_right _ hi
              have : (((List.range (len * P.cellsOf e)).map fun j => (w.cell? (a.add j)).getD undef).drop (i * P.cellsOf e)).take (P.cellsOf e) = ((List.range (P.cellsOf e)).map fun j => (w.cell? (a.add (i * P.cellsOf e + j))).getD undef) := by
                apply List.ext_getElem (by simp; omega)
                intro j h1 h2
                simp
              rw [this]; exact q1
            have hall : ∀ j, j < len * P.cellsOf e → (w.cell? (a.add j)).isSome = true := fun j hj => by
              have hd := Nat.div_add_mod j (P.cellsOf e)
              have hi : j / P.cellsOf e < len := (Nat.div_lt_iff_lt_mul hs.2).2 hj
              obtain ⟨_, _, _, _, q4⟩ := hel _ hi
              have := q4 (j % P.cellsOf e) (Nat.mod_lt _ hs.2)
              rwa [show j / P.cellsOf e * P.cellsOf e + j % P.cellsOf e = j by rw [Nat.mul_comm]; omega] at this
            have hbound : dss.length * P.bytesOf e ≤ reachBytes := by
              rw [q2]
              have := hw ((elems.map (·.1)).length * P.bytesOf e + (rest.map (·.1)).length * P.bytesOf e) (by simp [DataW.weights, hu, Nat.add_mul])
              simp only [List.length_map, g1] at this
              omega
            refine ⟨[.sl (P.cellsOf e) dss], .cons (.sl q2 (fun r hr => (q3 r hr).2) hc.2.1 hc.2.2 q1 fun hp => ?_) rfl .nil, by show TyB _ P t _; unfold TyB; rw [hu]; refine ⟨dss, rfl, fun r hr => (q3 r hr).1, ?_⟩; exact hbound⟩
            · obtain ⟨b, off, sp⟩ := a
              have h0 := hall 0 (Nat.mul_pos hp hs.2)
              obtain ⟨u, hu0⟩ := Option.isSome_iff_exists.1 h0
              have hsp : sp = none := by simpa [Addr.add] using World.cell?_spot hu0
              subst hsp
              refine ⟨b, off, rfl, ?_, fun j hj => ?_⟩
              · rw [Addr.add_lit] at hu0
                exact World.block_lt_of_cell? w _ hu0
              · rw [hcsl] at hj
                have := hall j hj
                rw [Addr.add_lit] at this
                obtain ⟨u, hu⟩ := Option.isSome_iff_exists.1 this
                simp [Addr.add_lit, hu]
          · cases h
      case struct fs =>
        simp only [Bool.and_eq_true, List.all_eq_true] at hs
        unfold DataW.trod at h
        simp only [hu] at h
        split at h
        · rename_i hlen
          simp only [Option.map_eq_some_iff] at h
          obtain ⟨xs, h1, h2⟩ := h
          injection h2 with h2 h3
          subst h2
          obtain ⟨g1, g2⟩ := mapM_get h1
          obtain ⟨dss, q1, q2⟩ := tile_out (w := w) (F := Fall w) (P := P) (p := Ty P m) (cs := cs) (by rw [hlen]; exact hs.1) fun f hf => by
            obtain ⟨i, hi, rfl⟩ := List.getElem_of_mem hf
            obtain ⟨y, q1, q2⟩ := g2 i _ (List.getElem?_eq_getElem hi)
            exact trod_ty m _ fuel _ y.1 y.2 (hs.2 _ hf) q2 fun x hx => hw x (by
              simp only [DataW.weights, hu]
              exact weightsEach_mem (i := i) (t := fs.toList[i].type) (by rw [List.getElem?_map, List.getElem?_eq_getElem hi]; rfl) (by rw [List.getElem?_map, q1]; rfl) x hx)
          exact ⟨dss.flatten, by simpa using q1, by show TyB _ P t _; unfold TyB; rw [hu]; exact ⟨dss, rfl, q2⟩⟩
        · cases h
      case array n e =>
        simp only [Bool.and_eq_true] at hs
        unfold DataW.trod at h
        simp only [hu] at h
        split at h
        · rename_i hlen
          simp only [Option.map_eq_some_iff] at h
          obtain ⟨xs, h1, h2⟩ := h
          injection h2 with h2 h3
          subst h2
          obtain ⟨g1, g2⟩ := mapM_get h1
          obtain ⟨dss, q1, q2, q3⟩ := tile_arr (w := w) (F := Fall w) (p := Ty P m e) (n := n) (s := P.cellsOf e) (cs := cs) (by rw [hlen]; exact (Nat.eq_of_beq_eq_true hs.2).symm) fun i hi => by
            obtain ⟨y, q1, q2⟩ := g2 i i (by rw [List.getElem?_range hi])
            exact trod_ty m _ fuel _ y.1 y.2 hs.1 q2 fun x hx => hw x (by
              simp only [DataW.weights, hu]
              exact weightsAll_mem (List.mem_map.2 ⟨y, List.mem_of_getElem? q1, rfl⟩) x hx)
          exact ⟨dss.flatten, q1, by show TyB _ P t _; unfold TyB; rw [hu]; exact ⟨dss, rfl, q2, q3⟩⟩
        · cases h
/-- What an argument of a type looks like. -/
def TyV (P : Program) (t : TypeId) (x : D) : Prop :=
  match P.underlying t with
  | some (.struct _) => ∃ ds, x = .agg ds ∧ Ty P 9 t ds
  | some (.array _ _) => ∃ ds, x = .agg ds ∧ Ty P 9 t ds
  | _ => Ty P 9 t [x]
def ArgsTy (P : Program) : List TypeId → List AV → Prop
  | [], aas => aas = []
  | t :: ts, aas => ∃ x r, aas = .d x :: r ∧ TyV P t x ∧ ArgsTy P ts r
theorem arg_tyV {t : TypeId} {v : Value} {d : DataW H} {ps : List MemPlace} (hs : supB P 9 t = true) (hok : Value.okWide P w .any base t v) (h : DataW.Trod enc P w 0 (fun _ => true) true t v d ps) (hw : ∀ x ∈ d.weights P t, x ≤ reachBytes) :
    ∃ x, TyV P t x ∧ RD w (Fall w) x v := by
  obtain ⟨fuel, hf⟩ := h
  obtain ⟨ds, h1, h2⟩ := trod_ty 9 t fuel _ d ps hs hf hw
  have hs0 := hs
  rw [supB] at hs
  have one : v.cells.toList = [v] → ∃ x, ds = [x] ∧ RD w (Fall w) x v := fun e => by
    rw [e] at h1
    cases h1 with | cons h1 _ hr => cases hr; exact ⟨_, rfl, h1⟩
  cases hu : P.underlying t with
  | none => rw [hu] at hs; cases hs
  | some dsc =>
    rw [hu] at hs
    have fin : v.cells.toList = [v] → (∀ x, Ty P 9 t [x] → TyV P t x) → ∃ x, TyV P t x ∧ RD w (Fall w) x v := fun e hx => by
      obtain ⟨x, rfl, hr⟩ := one e
      exact ⟨x, hx x h2, hr⟩
    have agg : (∃ cs, v = .agg cs) → (∀ ds, Ty P 9 t ds → TyV P t (.agg ds)) → ∃ x, TyV P t x ∧ RD w (Fall w) x v := fun ⟨cs, e⟩ hx => by
      subst e
      exact ⟨.agg ds, hx ds h2, by simpa [Value.cells] using RD.agg h1⟩
    cases dsc <;> try (simp at hs; done)
    · obtain ⟨b, rfl⟩ := okWide_bool hu hok; exact fin rfl fun x hx => by unfold TyV; rw [hu]; exact hx
    · obtain ⟨b, rfl⟩ := okWide_int hu hok; exact fin rfl fun x hx => by unfold TyV; rw [hu]; exact hx
    · obtain ⟨b, rfl⟩ := okWide_string hu hok; exact fin rfl fun x hx => by unfold TyV; rw [hu]; exact hx
    · obtain ⟨a, l, c, rfl⟩ := okWide_slice hu hok; exact fin rfl fun x hx => by unfold TyV; rw [hu]; exact hx
    · unfold Value.okWide at hok
      rw [hu] at hok
      obtain ⟨cs, e, _⟩ := hok
      exact agg ⟨cs, e⟩ fun ds hd => by unfold TyV; rw [hu]; exact ⟨ds, rfl, hd⟩
    · unfold Value.okWide at hok
      rw [hu] at hok
      obtain ⟨cs, e, _⟩ := hok
      exact agg ⟨cs, e⟩ fun ds hd => by unfold TyV; rw [hu]; exact ⟨ds, rfl, hd⟩
theorem args_ty : ∀ {ts : List TypeId} {vs : List Value} {ds : List (DataW H)} {ps : List MemPlace}, (ts.all fun t => supB P 9 t) = true → (∀ (j : Nat) (t : TypeId) (v : Value), ts[j]? = some t → vs[j]? = some v → Value.okWide P w .any base t v) → DataW.TrodAll enc P w 0 (fun _ => true) true ts vs ds ps → (∀ x ∈ DataW.weightsEach P ts ds, x ≤ reachBytes) →
    ∃ aas, ArgsTy P ts aas ∧ RAs w (Fall w) (fun _ => none) aas vs
  | [], vs, ds, ps, _, _, h, _ => by
    obtain ⟨rfl, rfl, rfl⟩ := trodAll_nil h
    exact ⟨[], rfl, .nil⟩
  | t :: ts, vs, ds, ps, hs, hok, h, hw => by
    obtain ⟨v, vs', d, ds', p, q, rfl, rfl, rfl, h0, r0⟩ := trodAll_cons h
    simp only [List.all_cons, Bool.and_eq_true] at hs
    obtain ⟨x, h1, h2⟩ := arg_tyV hs.1 (hok 0 t v rfl rfl) h0 fun y hy => hw y (by rw [DataW.weightsEach]; exact List.mem_append_left _ hy)
    obtain ⟨aas, h3, h4⟩ := args_ty hs.2 (fun j t v h1 h2 => hok (j + 1) t v (by simpa using h1) (by simpa using h2)) r0 fun y hy => hw y (by rw [DataW.weightsEach]; exact List.mem_append_right _ hy)
    exact ⟨.d x :: aas, ⟨x, aas, rfl, h1, h3⟩, .cons (.d h2) h4⟩
/-- **From a law's contract to what its statement asks of the walk.** -/
theorem lawWalk_of_sat {F : FuncId} {fn : Func} (hs : (fn.params.toList.all fun t => supB P 9 t) = true) (h : ∀ aas, ArgsTy P fn.params.toList aas → Sat P F aas [] (.d (.v (.bool true))) []) : LawWalk H enc P F fn := by
  intro W base args ds p hok hT hw
  obtain ⟨aas, h1, h2⟩ := args_ty hs (fun j t v h1 h2 => hok j t v (by simpa using h1) (by simpa using h2)) hT fun x hx => by
    have := List.all_eq_true.1 hw x hx
    simpa using this
  have En : Env (Fall W) (fun _ => none) (hp []) W := ⟨fun b h => h, fun i _ => rfl, fun i o h => by simp [hp] at h, fun i j o o' _ _ _ h => by simp [hp] at h⟩
  have := h aas h1 (Fall W) (fun _ => none) W args.toList En h2
  have e : args.toList.toArray = args := by simp
  rw [e] at this
  refine this.mono ?_
  rintro en W' ⟨v, rfl, F', ρ', S, _, _, R⟩
  have := R.v_out
  subst this
  exact ⟨rfl, S.os, S.tape, S.output, S.size, fun b hb => S.unch b hb fun ⟨i, o, hh, h, _⟩ => by simp [hp] at h⟩
end
end Go.Proofs.Ytbjmdnemeidpjaa
/- What arguments of a law are, by their types: numbers, structs of numbers, slices of such. No program is named here. -/
namespace Go.Proofs.Ytbjmdnemeidpjaa
set_option linter.unusedSimpArgs false
set_option linter.unusedVariables false
open Go.RowKit
section
variable {P : Program} {t : TypeId} {x : D} {m : Nat} {ds : List D}
def in64 (z : Int) : Prop := -9223372036854775808 ≤ z ∧ z ≤ 9223372036854775807
theorem wf_i64 {z : Int} (h : (Lit.int .i64 z).wf = true) : in64 z := by
  simp only [Lit.wf, Bool.and_eq_true, decide_eq_true_eq] at h
  exact h
theorem tyv_one (h : TyV P t x) {d : TypeDesc} (hu : P.underlying t = some d) (h1 : (match d with | .struct _ => false | .array _ _ => false | _ => true) = true) : Ty P 9 t [x] := by
  unfold TyV at h
  rw [hu] at h
  cases d <;> first | exact h | cases h1
theorem ty_slice {e : TypeId} (h : TyV P t x) (hu : P.underlying t = some (.slice e)) : ∃ rows, x = .sl (P.cellsOf e) rows ∧ (∀ r ∈ rows, Ty P 8 e r) ∧ rows.length * P.bytesOf e ≤ reachBytes := by
  have h := tyv_one h hu rfl
  have h : TyB (Ty P 8) P t [x] := h
  unfold TyB at h
  rw [hu] at h
  obtain ⟨rows, h1, h2⟩ := h
  injection h1 with h1
  exact ⟨rows, h1, h2⟩
theorem rows_map {α : Type} {f : α → List D} {p : α → Prop} : ∀ {rows : List (List D)}, (∀ r ∈ rows, ∃ a, r = f a ∧ p a) → ∃ l : List α, rows = l.map f ∧ ∀ a ∈ l, p a
  | [], _ => ⟨[], rfl, fun a h => by simp at h⟩
  | r :: rest, h => by
    obtain ⟨a, rfl, ha⟩ := h r (List.mem_cons_self ..)
    obtain ⟨l, rfl, hl⟩ := rows_map (rows := rest) fun r hr => h r (List.mem_cons_of_mem _ hr)
    exact ⟨a :: l, rfl, fun b hb => (List.mem_cons.1 hb).elim (fun e => e ▸ ha) fun q => hl b q⟩
end
end Go.Proofs.Ytbjmdnemeidpjaa
/- Contracts of the elder kind; slices that are lent. No program is named here. -/
namespace Go.Proofs.Ytbjmdnemeidpjaa
set_option linter.unusedSimpArgs false
set_option linter.unusedVariables false
open Go.RowKit
mutual
def flatD : D → Bool
  | .v _ => true
  | .agg xs => flatDs xs
  | .sl _ _ => false
def flatDs : List D → Bool
  | [] => true
  | x :: r => flatD x && flatDs r
end
mutual
def flatA : AV → Bool
  | .d x => flatD x
  | .tup xs => flatAs xs
  | .any => true
  | _ => false
def flatAs : List AV → Bool
  | [] => true
  | x :: r => flatA x && flatAs r
end
section
variable {P : Program} {w w' : World} {F F' : Nat → Prop} {ρ ρ' : Nat → Option Value} {H : Hp} {L : List AObj} {n : Nat} {g : FuncId}
mutual
theorem RD.flat : ∀ (x : D) {v : Value}, flatD x = true → RD w F x v → RD w' F' x v
  | .v u, v, _, h => by cases h; exact .v _
  | .agg xs, v, l, h => by cases h with | agg h => exact .agg (RDs.flat xs (by simpa [flatD] using l) h)
  | .sl s r, v, l, _ => by simp [flatD] at l
theorem RDs.flat : ∀ (xs : List D) {vs : List Value}, flatDs xs = true → RDs w F xs vs → RDs w' F' xs vs
  | [], _, _, h => by cases h; exact .nil
  | x :: r, _, l, h => by simp [flatDs] at l; cases h with | cons h h1 hr => exact .cons (RD.flat x l.1 h) h1 (RDs.flat r l.2 hr)
end
mutual
theorem RA.flat : ∀ (x : AV) {v : Value}, flatA x = true → RA w F ρ x v → RA w' F' ρ' x v
  | .d x, v, l, h => by cases h with | d h => exact .d (h.flat x (by simpa [flatA] using l))
  | .tup xs, v, l, h => by cases h with | tup h => exact .tup (RAs.flat xs (by simpa [flatA] using l) h)
  | .any, v, _, _ => .any v
  | .ptr _ _, _, l, _ => by simp [flatA] at l
  | .own _, _, l, _ => by simp [flatA] at l
  | .ep _ _ _ _, _, l, _ => by simp [flatA] at l
  | .fp _, _, l, _ => by simp [flatA] at l
  | .agg _, _, l, _ => by simp [flatA] at l
  | .fn _ _ _, _, l, _ => by simp [flatA] at l
  | .mp _, _, l, _ => by simp [flatA] at l
theorem RAs.flat : ∀ (xs : List AV) {vs : List Value}, flatAs xs = true → RAs w F ρ xs vs → RAs w' F' ρ' xs vs
  | [], _, _, h => by cases h; exact .nil
  | x :: r, _, l, h => by simp [flatAs] at l; cases h with | cons h hr => exact .cons (RA.flat x l.1 h) (RAs.flat r l.2 hr)
end
/-! ### contracts of the elder kind -/
mutual
inductive FlatV : D → Value → Prop
  | v (u : Value) : FlatV (.v u) u
  | agg {xs : List D} {us : List Value} (h : FlatVs xs us) : FlatV (.agg xs) (.agg us.toArray)
inductive FlatVs : List D → List Value → Prop
  | nil : FlatVs [] []
  | cons {x : D} {xs : List D} {v : Value} {vs : List Value} (h : FlatV x v) (h1 : v.oneCell' = true) (hr : FlatVs xs vs) : FlatVs (x :: xs) (v :: vs)
end
mutual
inductive FlatW : AV → Value → Prop
  | d {x : D} {v : Value} (h : FlatV x v) : FlatW (.d x) v
  | tup {xs : List AV} {vs : List Value} (h : FlatWs xs vs) : FlatW (.tup xs) (.tuple vs.toArray)
inductive FlatWs : List AV → List Value → Prop
  | nil : FlatWs [] []
  | cons {x : AV} {xs : List AV} {v : Value} {vs : List Value} (h : FlatW x v) (hr : FlatWs xs vs) : FlatWs (x :: xs) (v :: vs)
end
mutual
theorem FlatV.rd : ∀ {x : D} {v : Value}, FlatV x v → RD w F x v
  | _, _, .v u => .v u
  | _, _, .agg h => .agg (FlatVs.rds h)
theorem FlatVs.rds : ∀ {x : List D} {v : List Value}, FlatVs x v → RDs w F x v
  | _, _, .nil => .nil
  | _, _, .cons h h1 hr => .cons (FlatV.rd h) h1 (FlatVs.rds hr)
end
mutual
theorem FlatV.eq : ∀ {x : D} {v u : Value}, FlatV x v → RD w F x u → u = v
  | _, _, _, .v u, h => by cases h; rfl
  | _, _, _, .agg h, k => by cases k with | agg k => rw [FlatVs.eq h k]
theorem FlatVs.eq : ∀ {x : List D} {v u : List Value}, FlatVs x v → RDs w F x u → u = v
  | _, _, _, .nil, h => by cases h; rfl
  | _, _, _, .cons h h1 hr, k => by cases k with | cons k k1 kr => rw [FlatV.eq h k, FlatVs.eq hr kr]
end
mutual
theorem FlatW.ra : ∀ {x : AV} {v : Value}, FlatW x v → RA w F ρ x v
  | _, _, .d h => .d h.rd
  | _, _, .tup h => .tup (FlatWs.ras h)
theorem FlatWs.ras : ∀ {x : List AV} {v : List Value}, FlatWs x v → RAs w F ρ x v
  | _, _, .nil => .nil
  | _, _, .cons h hr => .cons (FlatW.ra h) (FlatWs.ras hr)
end
mutual
theorem FlatW.eq : ∀ {x : AV} {v u : Value}, FlatW x v → RA w F ρ x u → u = v
  | _, _, _, .d h, k => by cases k with | d k => exact h.eq k
  | _, _, _, .tup h, k => by cases k with | tup k => rw [FlatWs.eq h k]
theorem FlatWs.eq : ∀ {x : List AV} {v u : List Value}, FlatWs x v → RAs w F ρ x u → u = v
  | _, _, _, .nil, h => by cases h; rfl
  | _, _, _, .cons h hr, k => by cases k with | cons k kr => rw [FlatW.eq h k, FlatWs.eq hr kr]
end
theorem step_below {w w' : World} (En : Env F ρ (hp []) w) (hb : Below w.heap.size w w') : Step F ρ (hp []) w F ρ (hp []) w' ∧ Env F ρ (hp []) w' := by
  have no : ∀ (i : Nat) (o : AObj), hp [] i = some o → False := fun i o h => by simp [hp] at h
  exact ⟨⟨hb.os, hb.tape, hb.output, hb.size, fun b h _ => hb.block b h, fun _ h => h, fun _ h => .inl h, fun b ⟨i, o, _, h, _⟩ => (no i o h).elim⟩,
    fun b h => Nat.lt_of_lt_of_le (En.fb b h) hb.size, En.abs, fun i o h => (no i o h).elim, fun i j o o' _ _ _ h => (no i o h).elim⟩
theorem Sat.of_calls {args : List AV} {vals : List Value} {r : AV} {rv : Value} (ha : FlatWs args vals) (hr : FlatW r rv) (h : ∀ w, Calls P g vals.toArray w fun e w' => e = .returned rv ∧ Below w.heap.size w w') : Sat P g args [] r [] := by
  intro F ρ w vs En hv
  have := ha.eq hv
  subst this
  refine (h w).mono ?_
  rintro e w' ⟨rfl, hb⟩
  obtain ⟨S, E'⟩ := step_below En hb
  exact ⟨rv, rfl, F, ρ, S, Keep.refl _, E', hr.ra⟩
theorem Sat.of_same {args : List AV} {vals : List Value} {r : AV} {rv : Value} (ha : FlatWs args vals) (hr : FlatW r rv) (h : ∀ w, Calls P g vals.toArray w fun e w' => e = .returned rv ∧ w = w') : Sat P g args [] r [] :=
  .of_calls ha hr fun w => (h w).mono fun e w' ⟨h1, h2⟩ => ⟨h1, by subst h2; exact Below.refl _ _⟩
/-! ### slices of the call's own that are lent to a function -/
def Lend (L : List AObj) : List AV → List AV → List Nat → Prop
  | [], [], ids => ids = []
  | .own i :: r, .d (.sl s rows) :: r1, ids => ∃ t, ids = i :: t ∧ L[i]? = some (.sl s rows) ∧ Lend L r r1 t
  | .d x :: r, .d y :: r1, ids => x = y ∧ Lend L r r1 ids
  | _, _, _ => False
theorem Lend.ras {F1 : Nat → Prop} (En : Env F ρ H w) (hF : ∀ b, F b → F1 b) : ∀ {args args1 : List AV} {ids : List Nat} {vs : List Value}, Lend L args args1 ids → (∀ i ∈ ids, H i = L[i]?) → (∀ i ∈ ids, ∀ h, ρ i = some h → ∀ b, blkOf h = some b → F1 b) → RAs w F ρ args vs → RAs w F1 (fun _ => none) args1 vs
  | [], [], _, _, _, _, _, h => by cases h; exact .nil
  | .d x :: r, .d y :: r1, ids, _, h, hi, hb, hv => by
    obtain ⟨rfl, h2⟩ := h
    cases hv with | cons hv hr => cases hv with | d hv => exact .cons (.d (hv.mono (fun _ _ => rfl) hF)) (Lend.ras En hF h2 hi hb hr)
  | .own i :: r, .d (.sl s rows) :: r1, ids, _, h, hi, hb, hv => by
    obtain ⟨t, rfl, h1, h2⟩ := h
    cases hv with | cons hv hr =>
      refine .cons ?_ (Lend.ras En hF h2 (fun j hj => hi j (List.mem_cons_of_mem _ hj)) (fun j hj => hb j (List.mem_cons_of_mem _ hj)) hr)
      have hi' : H i = some (.sl s rows) := by rw [hi i (List.mem_cons_self ..)]; exact h1
      cases hv with | own hv =>
        rename_i A m c
        obtain ⟨hh, e1, ⟨vs, how, hra, hs⟩, e3⟩ := En.rep i _ hi' rfl
        rw [hv] at e1; injection e1 with e1; subst e1
        obtain ⟨A', c', he, g1, g2, hrd⟩ := how.form
        injection he with q1 q2 q3
        subst q1 q2 q3
        refine .d (.sl rfl hs g1 g2 (hra.mono (fun _ _ => rfl) hF) fun hp => ?_)
        rcases Nat.eq_zero_or_pos s with hs0 | hs0
        · have hvs : vs = [] := List.eq_nil_of_length_eq_zero (by rw [hrd.1, hs0]; simp)
          subst hvs
          obtain ⟨g, off, cap, he, _⟩ := how.open_ hp
          injection he with q1 _ _
          subst q1
          exact ⟨g, off, rfl, hb i (List.mem_cons_self ..) _ hv g rfl, fun j hj => by simp at hj⟩
        · obtain ⟨b, off, rfl, _, hc⟩ := hrd.2 hp
          exact ⟨b, off, rfl, hb i (List.mem_cons_self ..) _ hv b rfl, hc⟩
  | [], _ :: _, _, _, h, _, _, _ => by simp [Lend] at h
  | .ptr .. :: _, _, _, _, h, _, _, _ => by simp [Lend] at h
  | .ep .. :: _, _, _, _, h, _, _, _ => by simp [Lend] at h
  | .fp .. :: _, _, _, _, h, _, _, _ => by simp [Lend] at h
  | .agg .. :: _, _, _, _, h, _, _, _ => by simp [Lend] at h
  | .tup .. :: _, _, _, _, h, _, _, _ => by simp [Lend] at h
  | .fn .. :: _, _, _, _, h, _, _, _ => by simp [Lend] at h
  | .mp .. :: _, _, _, _, h, _, _, _ => by simp [Lend] at h
  | .any :: _, _, _, _, h, _, _, _ => by simp [Lend] at h
  | .own _ :: _, [], _, _, h, _, _, _ => by simp [Lend] at h
  | .own _ :: _, .d (.v _) :: _, _, _, h, _, _, _ => by simp [Lend] at h
  | .own _ :: _, .d (.agg _) :: _, _, _, h, _, _, _ => by simp [Lend] at h
  | .own _ :: _, .ptr .. :: _, _, _, h, _, _, _ => by simp [Lend] at h
  | .own _ :: _, .own .. :: _, _, _, h, _, _, _ => by simp [Lend] at h
  | .own _ :: _, .ep .. :: _, _, _, h, _, _, _ => by simp [Lend] at h
  | .own _ :: _, .fp .. :: _, _, _, h, _, _, _ => by simp [Lend] at h
  | .own _ :: _, .agg .. :: _, _, _, h, _, _, _ => by simp [Lend] at h
  | .own _ :: _, .tup .. :: _, _, _, h, _, _, _ => by simp [Lend] at h
  | .own _ :: _, .fn .. :: _, _, _, h, _, _, _ => by simp [Lend] at h
  | .own _ :: _, .mp .. :: _, _, _, h, _, _, _ => by simp [Lend] at h
  | .own _ :: _, .any :: _, _, _, h, _, _, _ => by simp [Lend] at h
  | .d _ :: _, [], _, _, h, _, _, _ => by simp [Lend] at h
  | .d _ :: _, .ptr .. :: _, _, _, h, _, _, _ => by simp [Lend] at h
  | .d _ :: _, .own .. :: _, _, _, h, _, _, _ => by simp [Lend] at h
  | .d _ :: _, .ep .. :: _, _, _, h, _, _, _ => by simp [Lend] at h
  | .d _ :: _, .fp .. :: _, _, _, h, _, _, _ => by simp [Lend] at h
  | .d _ :: _, .agg .. :: _, _, _, h, _, _, _ => by simp [Lend] at h
  | .d _ :: _, .tup .. :: _, _, _, h, _, _, _ => by simp [Lend] at h
  | .d _ :: _, .fn .. :: _, _, _, h, _, _, _ => by simp [Lend] at h
  | .d _ :: _, .mp .. :: _, _, _, h, _, _, _ => by simp [Lend] at h
  | .d _ :: _, .any :: _, _, _, h, _, _, _ => by simp [Lend] at h
theorem Sat.lend {args args1 : List AV} {r : AV} {ids : List Nat} (h : Sat P g args1 [] r []) (hl : Lend L args args1 ids) (hr : flatA r = true) (hlive : ∀ i ∈ ids, ∃ o, L[i]? = some o ∧ o.live = true) : CallOK P g args L n ⟨ids, [], []⟩ r := by
  intro H F ρ w vals En hrs _ hv
  have hH : ∀ i ∈ ids, ∀ hh, ρ i = some hh → ∀ b, blkOf hh = some b → b < w.heap.size := by
    intro i hi hh hρ b hb
    obtain ⟨o, ho, hlv⟩ := hlive i hi
    obtain ⟨h0, e1, _, e3⟩ := En.rep i o (by rw [hrs i hi]; exact ho) hlv
    rw [hρ] at e1; injection e1 with e1; subst e1
    exact (e3 b hb).1
  let F1 : Nat → Prop := fun b => F b ∨ ∃ i ∈ ids, ∃ hh, ρ i = some hh ∧ blkOf hh = some b
  have E1 : Env F1 (fun _ => none) (hp []) w := ⟨fun b hb => hb.elim (En.fb b) fun ⟨i, hi, hh, h1, h2⟩ => hH i hi hh h1 b h2, fun _ _ => rfl, fun i o h => by simp [hp] at h, fun i j o o' _ _ _ h => by simp [hp] at h⟩
  refine (h F1 (fun _ => none) w vals E1 (hl.ras En (fun _ h => .inl h) hrs (fun i hi hh h1 b h2 => .inr ⟨i, hi, hh, h1, h2⟩) hv)).mono ?_
  rintro en w' ⟨v, rfl, F2, ρ2, S, _, E2, R⟩
  have hold : ∀ b, b < w.heap.size → w'.heap[b]? = w.heap[b]? := fun b hb => S.unch b hb fun ⟨i, o, _, h, _⟩ => by simp [hp] at h
  refine ⟨v, rfl, fun b => F2 b ∧ (F b ∨ w.heap.size ≤ b), ρ, ⟨S.os, S.tape, S.output, S.size, fun b hb _ => hold b hb, fun b hb => ⟨S.fsub b (.inl hb), .inl hb⟩, fun b hb => hb.2.elim .inl fun q => .inr (.inl q), fun b hb => .inr hb⟩, Keep.refl _, ?_, R.flat r hr⟩
  refine ⟨fun b hb => E2.fb b hb.1, En.abs, fun i o hi hlv => ?_, En.inj⟩
  obtain ⟨hh, e1, e2, e3⟩ := En.rep i o hi hlv
  exact ⟨hh, e1, e2.mono S.size (fun b _ hlt => hold b hlt) (fun b hb => hold b (En.fb b hb)) (fun b hb => ⟨S.fsub b (.inl hb), .inl hb⟩) (Keep.refl _), fun b hb => ⟨Nat.lt_of_lt_of_le (e3 b hb).1 S.size, fun q => q.2.elim (e3 b hb).2 fun q => by have := (e3 b hb).1; omega⟩⟩
theorem lend_live {args args1 : List AV} {ids : List Nat} : Lend L args args1 ids → ∀ i ∈ ids, ∃ o, L[i]? = some o ∧ o.live = true := by
  induction args generalizing args1 ids with
  | nil => intro h i hi; cases args1 <;> simp [Lend] at h; subst h; simp at hi
  | cons x r ih =>
    intro h i hi
    cases args1 with
    | nil => cases x <;> simp [Lend] at h
    | cons y r1 =>
      cases x <;> try (simp [Lend] at h; done)
      · cases y <;> try (simp [Lend] at h; done)
        exact ih h.2 i hi
      · cases y <;> try (simp [Lend] at h; done)
        rename_i j y
        cases y <;> try (simp [Lend] at h; done)
        obtain ⟨t, rfl, h1, h2⟩ := h
        rcases List.mem_cons.1 hi with e | e
        · subst e; exact ⟨_, h1, rfl⟩
        · exact ih h2 i e
/-- .. as it is used: one slice, lent in the first place. -/
theorem Sat.lend1 {i s : Nat} {rows : List (List D)} {aas : List D} {r : AV} (h : Sat P g (.d (.sl s rows) :: aas.map .d) [] r []) (hi : L[i]? = some (.sl s rows)) (hr : flatA r = true) : CallOK P g (.own i :: aas.map .d) L n ⟨[i], [], []⟩ r := by
  have hall : ∀ (aas : List D), Lend L (aas.map .d) (aas.map .d) [] := by
    intro aas
    induction aas with
    | nil => rfl
    | cons a aas ih => exact ⟨rfl, ih⟩
  have hl : Lend L (.own i :: aas.map .d) (.d (.sl s rows) :: aas.map .d) [i] := ⟨[], rfl, hi, hall aas⟩
  exact h.lend hl hr (lend_live hl)
/-- Data of a slice, as the elder contracts have it. -/
theorem RD.sl_rd {s : Nat} {rows : List (List D)} {us : List Value} {v : Value} (h : RD w F (.sl s rows) v) (hF : ∀ b, F b → b < w.heap.size) (hf : FlatVs rows.flatten us) : ∃ A c, v = .slice A rows.length c ∧ rows.length ≤ c ∧ c ≤ maxLen ∧ Rd w w.heap.size s A rows.length us := by
  cases h with | sl hn hs h1 h2 hr hm =>
    subst hn
    have := hf.eq hr
    subst this
    refine ⟨_, _, rfl, h1, h2, ⟨by rw [hr.length, flat_len hs], fun hp => ?_⟩⟩
    obtain ⟨b, off, e, hb, hc⟩ := hm hp
    exact ⟨b, off, e, hF b hb, hc⟩
end
end Go.Proofs.Ytbjmdnemeidpjaa
/- Operations on slices, as they are asked for by the conditions. No program is named here. -/
namespace Go.Proofs.Ytbjmdnemeidpjaa
set_option linter.unusedSimpArgs false
set_option linter.unusedVariables false
open Go.RowKit
def slB (P : Program) (t s b : Nat) : Bool :=
  match (tiOf P t).kind with
  | .sli => Nat.beq (tiOf P t).esize s && Nat.blt 0 s && Nat.beq (tiOf P t).ebytes b && Nat.blt 0 b && (match (tiOf P (tiOf P t).elem).kind with | .non => false | _ => true)
  | _ => false
section
variable {P : Program} {w w' : World} {F F' : Nat → Prop} {ρ ρ' : Nat → Option Value} {H : Hp} {L : List AObj} {ty n t s b i j : Nat} {rows rows2 : List (List D)} {sx xx a1 a2 : Operand} {c lo hi : Nat} {kd kd' kl kh : IntKind}
theorem slB_out (h : slB P t s b = true) : (tiOf P t).kind = .sli ∧ (tiOf P t).esize = s ∧ 0 < s ∧ (tiOf P t).ebytes = b ∧ 0 < b ∧ (tiOf P (tiOf P t).elem).kind ≠ .non := by
  unfold slB at h
  split at h
  · rename_i hk
    simp only [Bool.and_eq_true, Nat.blt_eq] at h
    refine ⟨hk, Nat.eq_of_beq_eq_true h.1.1.1.1, h.1.1.1.2, Nat.eq_of_beq_eq_true h.1.1.2, h.1.2, fun e => ?_⟩
    have := h.2
    rw [e] at this; cases this
  · cases h
theorem le_max {k b : Nat} (hb : 0 < b) (h : k * b ≤ 140737488355328) : k ≤ maxLen := by
  have : k ≤ k * b := Nat.le_mul_of_pos_right _ hb
  unfold maxLen; omega
theorem ap (s b : Nat) (h : slB P t s b = true) (hi : L[i]? = some (.sl s rows)) (hj : L[j]? = some (.sl s rows2)) (hb : (rows.length + rows2.length) * b ≤ 140737488355328) : Does P (.call { callee := .builtin .append, args := #[sx, xx], argTypes := #[t, t] }) ty L n [.own i, .own j] ⟨[i, j], [(i, .dead)], [.sl s (rows ++ rows2)]⟩ (.own n) := by
  obtain ⟨h1, h2, h3, h4, h6, h5⟩ := slB_out h
  subst h4
  exact does_append h1 h2 h3 h5 hi (.inr (.inl ⟨j, rfl, hj, rfl⟩)) hb (le_max h6 hb)
/-- A call with one object of the caller's. -/
theorem Sat.at1 {g : FuncId} {args : List AV} {o o' : AObj} {N : List AObj} {r : AV} (h : Sat P g args [o] r (o' :: N)) (a : Nat) (hlive : o.live = true) (hids : (AV.lts 1 args && AObj.lts 1 [o]) = true)
    (ha : L[a]? = some (o.rn (sub [a] n))) : CallOK P g (AV.rns (sub [a] n) args) L n ⟨[a], [(a, o'.rn (sub [a] n))], AObj.rns (sub [a] n) N⟩ (r.rn (sub [a] n)) :=
  h.at_ [a] L n rfl (by simp) rfl (by simp [AObj.lives, hlive]) hids fun j hj => by
    match j, hj with
    | 0, _ => exact ha
/-- .. with two. -/
theorem Sat.at2 {g : FuncId} {args : List AV} {o o' p p' : AObj} {N : List AObj} {r : AV} (h : Sat P g args [o, p] r (o' :: p' :: N)) (a b : Nat) (hab : Nat.beq a b = false) (hlive : (o.live && p.live) = true) (hids : (AV.lts 2 args && AObj.lts 2 [o, p]) = true)
    (ha : L[a]? = some (o.rn (sub [a, b] n))) (hb : L[b]? = some (p.rn (sub [a, b] n))) : CallOK P g (AV.rns (sub [a, b] n) args) L n ⟨[a, b], [(a, o'.rn (sub [a, b] n)), (b, p'.rn (sub [a, b] n))], AObj.rns (sub [a, b] n) N⟩ (r.rn (sub [a, b] n)) := by
  simp only [Bool.and_eq_true] at hlive
  have hne : a ≠ b := fun e => by subst e; simp at hab
  exact h.at_ [a, b] L n rfl (by simp [hne]) rfl (by simp [AObj.lives, hlive]) hids fun j hj => by
    match j, hj with
    | 0, _ => exact ha
    | 1, _ => exact hb
theorem lendO {g : Nat} {r : AV} (h : Sat P g [.d (.sl s rows)] [] r []) (hi : L[i]? = some (.sl s rows)) (hr : flatA r = true) : CallOK P g [.own i] L n ⟨[i], [], []⟩ r := Sat.lend1 (aas := []) h hi hr
end
theorem wi {n : Int} (h1 : -9223372036854775808 ≤ n) (h2 : n ≤ 9223372036854775807) : IntKind.i64.wrap n = n := by rw [IntKind.wrap_i64]; omega
/-- A counter goes on by one. -/
theorem wk1 {k : Nat} (h : k ≤ 9223372036854775806) : AV.d (.v (.int .i64 (IntKind.i64.wrap ((k : Int) + 1)))) = AV.d (.v (.int .i64 ((k + 1 : Nat) : Int))) := by rw [wi (by omega) (by omega)]; rfl
end Go.Proofs.Ytbjmdnemeidpjaa
/- Comparisons of pointers, truth values and structs. No program is named here. -/
namespace Go.Proofs.Ytbjmdnemeidpjaa
set_option linter.unusedSimpArgs false
set_option linter.unusedVariables false
open Go.RowKit
section
variable {P : Program} {w w' : World} {F F' : Nat → Prop} {ρ ρ' : Nat → Option Value} {H : Hp} {L : List AObj} {ty n : Nat} {x y : Operand} {t t' : TypeId}
def isPtrT (P : Program) (t : TypeId) : Bool := match P.underlying t with | some (.pointer _) => true | _ => false
theorem isPtrT_out (h : isPtrT P t = true) : ∃ e, P.underlying t = some (.pointer e) := by
  unfold isPtrT at h
  split at h
  · exact ⟨_, by assumption⟩
  · cases h
theorem does_ra2 {op : Op} {x y : Operand} {a b : AV} {r : Value} (hop : op.operands = #[x, y]) (h : ∀ (o : Oper) (w : World) (F : Nat → Prop) (ρ : Nat → Option Value) (ev : Operand → Value) (u v : Value), o.op = op → ev x = u → ev y = v → RA w F ρ a u → RA w F ρ b v → (execOp ev o).run P w = .ok (.value r) w) : Does P op ty L n [a, b] e0 (.d (.v r)) :=
  does_val fun o w F ρ ev ho _ hx => by
    rw [hop] at hx
    obtain ⟨v1, v2, e, h1, h2⟩ := hx.two_out
    simp at e
    exact ⟨r, h o w F ρ ev v1 v2 ho e.1 e.2 h1 h2, .d (.v r)⟩
theorem run_eq {op : BinOp} {u v : Value} {b c : Bool} {g : Bool → Bool} (hb : ∀ d : Nat, (Op.equalIn (d + 1) t u v).run P w = .ok b w) (hf : binOp op t u v = (do let r ← Op.equal t u v; pure (.bool (g r))))
    (hc : c = g b) : (binOp op t u v).run P w = .ok (.bool c) w := by
  rw [hf, hc]
  have h := hb 9999
  simp [Op.equal, Op.maxDepth, h]
theorem eq_form (u v : Value) (h : (match u, v with | .int .., .int .. => false | .float .., .float .. => false | .complex .., .complex .. => false | .string _, .string _ => false | _, _ => true) = true) : binOp .eql t u v = (do let r ← Op.equal t u v; pure (.bool (id r))) := by
  cases u <;> cases v <;> first | rfl | (simp at h; done)
theorem ne_form (u v : Value) (h : (match u, v with | .int .., .int .. => false | .float .., .float .. => false | .complex .., .complex .. => false | .string _, .string _ => false | _, _ => true) = true) : binOp .neq t u v = (do let r ← Op.equal t u v; pure (.bool (!r))) := by
  cases u <;> cases v <;> first | rfl | (simp at h; done)
theorem guard_form {op : BinOp} (u v : Value) (h : (match u, v with | .nilIface, .nilIface => false | .agg _, .agg _ => false | _, _ => true) = true) : (eqGuard op t x y u v).run P w = .ok () w := by
  cases u <;> cases v <;> first | (cases op <;> rfl) | (simp at h)
theorem exec_eq {op : BinOp} {o : Oper} {ev : Operand → Value} {u v : Value} {c : Bool} (ho : o.op = .binOp op t x y t') (h1 : ev x = u) (h2 : ev y = v) (hg : (eqGuard op t x y u v).run P w = .ok () w) (hb : (binOp op t u v).run P w = .ok (.bool c) w) :
    (execOp ev o).run P w = .ok (.value (.bool c)) w := by
  simp only [execOp, ho, h1, h2]
  simp [hg, hb]
theorem eqP {i k : Nat} (h : isPtrT P t = true) : Does P (.binOp .eql t x y t') ty L n [.ptr i k, .d (.v (.pointer none))] e0 (.d (.v (.bool false))) :=
  does_ra2 rfl fun o w F ρ ev u v ho h1 h2 hu hv => by
    obtain ⟨e, he⟩ := isPtrT_out h
    have := hv.v_out
    subst this
    cases hu
    exact exec_eq ho h1 h2 (guard_form _ _ rfl) (run_eq (b := false) (fun d => by simp [Op.equalIn, run_underlying he]) (eq_form _ _ rfl) rfl)
/-! ### structs of numbers -/
def intT (P : Program) (t : TypeId) : Bool := match P.underlying t with | some (.int _) => true | _ => false
theorem intT_out (h : intT P t = true) : ∃ k, P.underlying t = some (.int k) := by
  unfold intT at h
  split at h
  · exact ⟨_, by assumption⟩
  · cases h
def eq2T (P : Program) (t : TypeId) : Bool := match P.underlying t with
  | some (.struct fs) => (match fs.toList with
    | [f, g] => !P.stoodInHeld t && !P.eqGuardType P.depth t && f.name != "_" && Nat.beq f.offset 0 && intT P f.type && g.name != "_" && Nat.beq g.offset 1 && intT P g.type
    | _ => false)
  | _ => false
theorem run_eq2 {k k' : IntKind} {a b c d : Int} (h : eq2T P t = true) (m : Nat) : (Op.equalIn (m + 2) t (.agg #[.int k a, .int k' b]) (.agg #[.int k c, .int k' d])).run P w = .ok (a == c && b == d) w := by
  unfold eq2T at h
  split at h
  · rename_i fs hu
    split at h
    · rename_i f g hfs
      obtain rfl : fs = #[f, g] := by cases fs; simp at hfs; rw [hfs]
      simp only [Bool.and_eq_true, Bool.not_eq_true', bne_iff_ne] at h
      obtain ⟨⟨⟨⟨⟨⟨⟨h1, _⟩, h3⟩, h4⟩, h5⟩, h6⟩, h7⟩, h8⟩ := h
      obtain ⟨q1, e1⟩ := intT_out h5
      obtain ⟨q2, e2⟩ := intT_out h8
      have h4 := Nat.eq_of_beq_eq_true h4
      have h7 := Nat.eq_of_beq_eq_true h7
      have p1 : ∀ u v : Value, (part f.type #[u, v] 0).run P w = .ok u w := fun u v => by simp [part, isAgg, run_underlying e1]
      have p2 : ∀ u v : Value, (part g.type #[u, v] 1).run P w = .ok v w := fun u v => by simp [part, isAgg, run_underlying e2]
      have q1 : ∀ m a c, (Op.equalIn (m + 1) f.type (.int k a) (.int k c)).run P w = .ok (a == c) w := fun m a c => by simp [Op.equalIn, run_underlying e1]
      have q2 : ∀ m a c, (Op.equalIn (m + 1) g.type (.int k' a) (.int k' c)).run P w = .ok (a == c) w := fun m a c => by simp [Op.equalIn, run_underlying e2]
      rw [Op.equalIn]
      simp [run_underlying hu, h1, h3, h6, h4, h7, p1, p2, q1, q2]
      cases hac : a == c <;> cases hbd : b == d <;> simp_all
    · cases h
  · cases h
theorem eq2_guard {op : BinOp} {us vs : Array Value} (h : eq2T P t = true) : (eqGuard op t x y (.agg us) (.agg vs)).run P w = .ok () w := by
  have hg : P.eqGuardType P.depth t = false := by
    unfold eq2T at h
    split at h
    · split at h
      · simp only [Bool.and_eq_true, Bool.not_eq_true', bne_iff_ne] at h
        exact h.1.1.1.1.1.1.2
      · cases h
    · cases h
  cases op <;> simp [eqGuard, hg]
theorem run_equal2 {k k' : IntKind} {a b c d : Int} (h : eq2T P t = true) : (Op.equal t (.agg #[.int k a, .int k' b]) (.agg #[.int k c, .int k' d])).run P w = .ok (a == c && b == d) w := run_eq2 h 9998
theorem agg2 {k k' : IntKind} {a b : Int} {v : Value} (h : RA w F ρ (.d (.agg [.v (.int k a), .v (.int k' b)])) v) : v = .agg #[.int k a, .int k' b] :=
  FlatW.eq (by repeat constructor) h
/-- Two structs of two numbers. -/
theorem eqS {k k' : IntKind} {a b c d : Int} (h : eq2T P t = true) : Does P (.binOp .eql t x y t') ty L n [.d (.agg [.v (.int k a), .v (.int k' b)]), .d (.agg [.v (.int k c), .v (.int k' d)])] e0 (.d (.v (.bool (a == c && b == d)))) :=
  does_ra2 rfl fun o w F ρ ev u v ho h1 h2 hu hv => by
    have := agg2 hu
    subst this
    have := agg2 hv
    subst this
    exact exec_eq ho h1 h2 (eq2_guard h) (by rw [eq_form _ _ rfl]; simp [run_equal2 h])
theorem neS {k k' : IntKind} {a b c d : Int} (h : eq2T P t = true) : Does P (.binOp .neq t x y t') ty L n [.d (.agg [.v (.int k a), .v (.int k' b)]), .d (.agg [.v (.int k c), .v (.int k' d)])] e0 (.d (.v (.bool (!(a == c && b == d))))) :=
  does_ra2 rfl fun o w F ρ ev u v ho h1 h2 hu hv => by
    have := agg2 hu
    subst this
    have := agg2 hv
    subst this
    exact exec_eq ho h1 h2 (eq2_guard h) (by rw [ne_form _ _ rfl]; simp [run_equal2 h])
end
end Go.Proofs.Ytbjmdnemeidpjaa
/- Comparisons of structs of numbers, truth values and strings. No program is named here. -/
namespace Go.Proofs.Ytbjmdnemeidpjaa
set_option linter.unusedSimpArgs false
set_option linter.unusedVariables false
open Go.RowKit
section
variable {P : Program} {w w' : World} {F F' : Nat → Prop} {ρ ρ' : Nat → Option Value} {H : Hp} {L : List AObj} {ty n : Nat} {x y : Operand} {t t' : TypeId}
def tagT (P : Program) (t : TypeId) : Nat := match P.underlying t with | some (.int _) => 1 | some .bool => 2 | some .string => 3 | _ => 0
def flatGo (P : Program) : List Field → Nat → List Nat → Bool
  | [], _, [] => true
  | f :: fs, o, k :: ks => f.name != "_" && Nat.beq f.offset o && Nat.beq (tagT P f.type) k && Nat.blt 0 k && flatGo P fs (o + 1) ks
  | _, _, _ => false
/-- A struct of such cells. -/
def flatB (P : Program) (t : TypeId) (ks : List Nat) : Bool := match P.underlying t with
  | some (.struct fs) => !P.stoodInHeld t && !P.eqGuardType P.depth t && flatGo P fs.toList 0 ks
  | _ => false
def eqV : Nat → D → D → Option Bool
  | 1, .v (.int k a), .v (.int k' b) => match kEq k k' with | true => some (a == b) | false => none
  | 2, .v (.bool a), .v (.bool b) => some (a == b)
  | 3, .v (.string a), .v (.string b) => some (a == b)
  | _, _, _ => none
def eqL : List Nat → List D → List D → Option Bool
  | [], [], [] => some true
  | k :: ks, x :: xs, y :: ys => match ks with
    | [] => (match xs, ys with | [], [] => eqV k x y | _, _ => none)
    | k' :: ks' => (match eqV k x y with
      | some a => (match eqL (k' :: ks') xs ys with | some b => some (a && b) | none => none)
      | none => none)
  | _, _, _ => none
def unD : D → Value
  | .v u => u
  | _ => undef
theorem eqV_out {k : Nat} {x y : D} {b : Bool} (h : eqV k x y = some b) : (k = 1 ∧ ∃ q a c, x = .v (.int q a) ∧ y = .v (.int q c) ∧ b = (a == c)) ∨ (k = 2 ∧ ∃ a c, x = .v (.bool a) ∧ y = .v (.bool c) ∧ b = (a == c)) ∨ (k = 3 ∧ ∃ a c, x = .v (.string a) ∧ y = .v (.string c) ∧ b = (a == c)) := by
  unfold eqV at h
  split at h
  · split at h
    · rename_i hk
      obtain rfl := kEq_out hk
      injection h with h
      exact .inl ⟨rfl, _, _, _, rfl, rfl, h.symm⟩
    · cases h
  · injection h with h
    exact .inr (.inl ⟨rfl, _, _, rfl, rfl, h.symm⟩)
  · injection h with h
    exact .inr (.inr ⟨rfl, _, _, rfl, rfl, h.symm⟩)
  · cases h
theorem tagT_one {t : TypeId} (h : tagT P t = 1) : ∃ k, P.underlying t = some (.int k) := by
  unfold tagT at h
  split at h <;> first | exact ⟨_, by assumption⟩ | (exact absurd h (by decide))
theorem tagT_two {t : TypeId} (h : tagT P t = 2) : P.underlying t = some .bool := by
  unfold tagT at h
  split at h <;> first | assumption | (exact absurd h (by decide))
theorem tagT_three {t : TypeId} (h : tagT P t = 3) : P.underlying t = some .string := by
  unfold tagT at h
  split at h <;> first | assumption | (exact absurd h (by decide))
theorem eqV_run {k : Nat} {x y : D} {b : Bool} (h : eqV k x y = some b) {t : TypeId} (ht : tagT P t = k) (m : Nat) : (Op.equalIn (m + 1) t (unD x) (unD y)).run P w = .ok b w := by
  rcases eqV_out h with ⟨rfl, q, a, c, rfl, rfl, rfl⟩ | ⟨rfl, a, c, rfl, rfl, rfl⟩ | ⟨rfl, a, c, rfl, rfl, rfl⟩
  · obtain ⟨k, hk⟩ := tagT_one ht
    simp [unD, Op.equalIn, run_underlying hk]
  · simp [unD, Op.equalIn, run_underlying (tagT_two ht)]
  · simp [unD, Op.equalIn, run_underlying (tagT_three ht)]
theorem eqV_unD {k : Nat} {x y : D} {b : Bool} (h : eqV k x y = some b) : x = .v (unD x) ∧ y = .v (unD y) := by
  rcases eqV_out h with ⟨rfl, q, a, c, rfl, rfl, rfl⟩ | ⟨rfl, a, c, rfl, rfl, rfl⟩ | ⟨rfl, a, c, rfl, rfl, rfl⟩ <;> exact ⟨rfl, rfl⟩
theorem part_tag {t : TypeId} {k : Nat} (ht : tagT P t = k) (h0 : 0 < k) {cs : Array Value} {o : Nat} {v : Value} (hv : cs[o]? = some v) : (part t cs o).run P w = .ok v w := by
  have : ∃ d, P.underlying t = some d ∧ (match d with | .struct _ => false | .array _ _ => false | _ => true) = true := by
    unfold tagT at ht
    split at ht
    · exact ⟨_, by assumption, rfl⟩
    · exact ⟨_, by assumption, rfl⟩
    · exact ⟨_, by assumption, rfl⟩
    · omega
  obtain ⟨d, hd, h1⟩ := this
  cases d <;> first | (cases h1; done) | simp [part, isAgg, run_underlying hd, hv]
theorem eqL_cons {k : Nat} {ks : List Nat} {xs ys : List D} {b : Bool} (h : eqL (k :: ks) xs ys = some b) : ∃ x xs' y ys' a c, xs = x :: xs' ∧ ys = y :: ys' ∧ eqV k x y = some a ∧ eqL ks xs' ys' = some c ∧ b = (a && c) := by
  cases xs with
  | nil => simp [eqL] at h
  | cons x xs =>
    cases ys with
    | nil => simp [eqL] at h
    | cons y ys =>
      cases ks with
      | nil =>
        cases xs with
        | nil =>
          cases ys with
          | nil => exact ⟨x, [], y, [], b, true, rfl, rfl, h, rfl, by simp⟩
          | cons _ _ => simp [eqL] at h
        | cons _ _ => simp [eqL] at h
      | cons k' ks =>
        rw [eqL] at h
        cases h1 : eqV k x y with
        | none => simp [h1] at h
        | some a =>
          cases h2 : eqL (k' :: ks) xs ys with
          | none => simp [h1, h2] at h
          | some c =>
            simp [h1, h2] at h
            exact ⟨x, xs, y, ys, a, c, rfl, rfl, h1, h2, h.symm⟩
theorem eqL_nil {xs ys : List D} {b : Bool} (h : eqL [] xs ys = some b) : xs = [] ∧ ys = [] ∧ b = true := by
  cases xs <;> cases ys <;> simp [eqL] at h
  exact ⟨rfl, rfl, h⟩
theorem eqL_unD : ∀ {ks : List Nat} {xs ys : List D} {b : Bool}, eqL ks xs ys = some b → xs = xs.map (fun x => .v (unD x)) ∧ ys = ys.map (fun x => .v (unD x))
  | [], xs, ys, b, h => by
    obtain ⟨rfl, rfl, _⟩ := eqL_nil h
    exact ⟨rfl, rfl⟩
  | k :: ks, xs, ys, b, h => by
    obtain ⟨x, xs, y, ys, a, c, rfl, rfl, ha, hc, _⟩ := eqL_cons h
    obtain ⟨e1, e2⟩ := eqV_unD ha
    obtain ⟨f1, f2⟩ := eqL_unD hc
    exact ⟨by rw [List.map_cons, ← e1, ← f1], by rw [List.map_cons, ← e2, ← f2]⟩
theorem flatGo_run (m : Nat) : ∀ {fs : List Field} {o : Nat} {ks : List Nat} {xs ys : List D} {b : Bool} {us vs : Array Value}, flatGo P fs o ks = true → eqL ks xs ys = some b → (∀ j, j < xs.length → us[o + j]? = some (unD (xs.getD j (.v undef)))) → (∀ j, j < ys.length → vs[o + j]? = some (unD (ys.getD j (.v undef)))) →
    (Op.eqFields (m + 1) us vs fs).run P w = .ok b w
  | [], _, [], xs, ys, b, us, vs, _, h, _, _ => by
    obtain ⟨_, _, rfl⟩ := eqL_nil h
    rw [Op.eqFields]; simp
  | [], _, k :: ks, _, _, _, _, _, hg, _, _, _ => by simp [flatGo] at hg
  | f :: fs, o, [], _, _, _, _, _, hg, _, _, _ => by simp [flatGo] at hg
  | f :: fs, o, k :: ks, xs, ys, b, us, vs, hg, h, hu, hv => by
    obtain ⟨x, xs, y, ys, a, c, rfl, rfl, ha, hc, h⟩ := eqL_cons h
    simp only [flatGo, Bool.and_eq_true, bne_iff_ne, Nat.blt_eq] at hg
    obtain ⟨⟨⟨⟨h1, h2⟩, h3⟩, h4⟩, h5⟩ := hg
    have h2 := Nat.eq_of_beq_eq_true h2
    have h3 := Nat.eq_of_beq_eq_true h3
    have p1 := part_tag (w := w) h3 h4 (hu 0 (by simp))
    have p2 := part_tag (w := w) h3 h4 (hv 0 (by simp))
    rw [Nat.add_zero, ← h2] at p1 p2
    have q := eqV_run (w := w) ha h3 m
    have hr := flatGo_run m (us := us) (vs := vs) h5 hc (fun j hj => by have := hu (j + 1) (by simpa using hj); rw [show o + 1 + j = o + (j + 1) by omega, this]; rfl)
      (fun j hj => by have := hv (j + 1) (by simpa using hj); rw [show o + 1 + j = o + (j + 1) by omega, this]; rfl)
    rw [Op.eqFields, if_pos h1]
    simp only [Sem.run_bind, p1, p2, Result.andThen_ok]
    have e1 : (x :: xs).getD 0 (.v undef) = x := rfl
    have e2 : (y :: ys).getD 0 (.v undef) = y := rfl
    rw [e1, e2, q, h]
    cases a with
    | false => simp
    | true => simpa using hr
theorem rds_unD {xs : List D} {vs : List Value} (h : RDs w F xs vs) (he : xs = xs.map (fun x => .v (unD x))) : ∀ j, j < xs.length → vs[j]? = some (unD (xs.getD j (.v undef))) := fun j hj => by
  obtain ⟨v, h1, h2, _⟩ := h.get (List.getElem?_eq_getElem hj)
  have : xs[j] = .v (unD xs[j]) := by
    have := congrArg (fun l => l[j]?) he
    simp only [List.getElem?_map, List.getElem?_eq_getElem hj, Option.map_some] at this
    injection this
  rw [this] at h2
  cases h2
  rw [h1]
  simp [List.getD, List.getElem?_eq_getElem hj]
theorem run_flat {ks : List Nat} {xs ys : List D} {b : Bool} (ht : flatB P t ks = true) (h : eqL ks xs ys = some b) {u v : Value} (hu : RA w F ρ (.d (.agg xs)) u) (hv : RA w F ρ (.d (.agg ys)) v) :
    ∃ us vs, u = .agg us ∧ v = .agg vs ∧ P.eqGuardType P.depth t = false ∧ (Op.equalIn 10000 t u v).run P w = .ok b w := by
  cases hu with | d hu =>
  cases hu with | agg hu =>
  cases hv with | d hv =>
  cases hv with | agg hv =>
  unfold flatB at ht
  split at ht
  · rename_i fs hfs
    simp only [Bool.and_eq_true, Bool.not_eq_true'] at ht
    obtain ⟨⟨h1, h2⟩, h3⟩ := ht
    obtain ⟨e1, e2⟩ := eqL_unD h
    have hff : P.fieldsOf t = fs := by simp [Program.fieldsOf, hfs]
    refine ⟨_, _, rfl, rfl, h2, ?_⟩
    rw [run_equalIn_struct w 9999 t _ _ (by rw [hff]; exact hfs) h1, hff]
    exact flatGo_run 9998 h3 h (fun j hj => by rw [Nat.zero_add, List.getElem?_toArray]; exact rds_unD hu e1 j hj) (fun j hj => by rw [Nat.zero_add, List.getElem?_toArray]; exact rds_unD hv e2 j hj)
  · cases ht
end
end Go.Proofs.Ytbjmdnemeidpjaa
/- What the conditions need of the program's tables. -/
namespace Go.Proofs.Ytbjmdnemeidpjaa
set_option linter.unusedSimpArgs false
set_option linter.unusedVariables false
theorem tf {p : Prop} : true = false → p := fun h => Bool.noConfusion h
theorem ft {p : Prop} : false = true → p := fun h => Bool.noConfusion h
theorem hm0 : Try.prog.follows .mixedOrders = true := by kernel_rfl
def E0 (g : Nat) : Bool := Nat.blt g 127 && !(Nat.beq g 0) && !(Nat.beq g 1) && !(Nat.beq g 74) && !(Nat.beq g 90)
theorem E0_all : ((List.range 127).all fun g => !(E0 g) || entersB Try.prog g) = true := by kernel_rfl
theorem hE0 : ∀ g, E0 g = true → entersB Try.prog g = true := fun g h => by
  have hlt : g < 127 := by simp [E0, Nat.blt_eq] at h; omega
  have := List.all_eq_true.1 E0_all g (List.mem_range.2 hlt)
  simpa [h] using this
end Go.Proofs.Ytbjmdnemeidpjaa
/- Short words for abstract values; small laws of lists. -/
namespace Go.Proofs.Ytbjmdnemeidpjaa
set_option linter.unusedSimpArgs false
set_option linter.unusedVariables false
open Go.RowKit
set_option maxRecDepth 100000
abbrev iD (z : Int) : D := .v (.int .i64 z)
abbrev iA (z : Int) : AV := .d (.v (.int .i64 z))
abbrev bA (b : Bool) : AV := .d (.v (.bool b))
abbrev gR (g : Int × Int) : List D := [iD g.1, iD g.2]
abbrev gA (g : Int × Int) : AV := .d (.agg (gR g))
theorem map_get {α β : Type} {f : α → β} {l : List α} {k : Nat} {x : α} (h : l[k]? = some x) : (l.map f)[k]? = some (f x) := by rw [List.getElem?_map, h]; rfl
theorem all_take_succ {α : Type} {p : α → Bool} {l : List α} {k : Nat} {x : α} (hx : l[k]? = some x) : (l.take (k + 1)).all p = ((l.take k).all p && p x) := by
  rw [List.take_add_one, hx, List.all_append]; simp
end Go.Proofs.Ytbjmdnemeidpjaa
/- Numbers of any length, in limbs (the document's), by conditions. -/
namespace Go.Proofs.Ytbjmdnemeidpjaa
set_option linter.unusedSimpArgs false
set_option linter.unusedVariables false
open Go.RowKit
set_option maxRecDepth 100000
abbrev lR (d : Int) : List D := [iD d]
abbrev lD (l : List Int) : D := .sl 1 (l.map lR)
abbrev nD (neg : Bool) (l : List Int) : D := .agg [.v (.bool neg), lD l]
/-! ### canonical limbs -/
def valL : List Int → Nat
  | [] => 0
  | d :: l => d.toNat + 65536 * valL l
def digL (l : List Int) : Prop := ∀ d ∈ l, 0 ≤ d ∧ d < 65536
def canL (n : Nat) : List Int := if h : n = 0 then [] else ((n % 65536 : Nat) : Int) :: canL (n / 65536)
termination_by n
decreasing_by exact Nat.div_lt_self (Nat.pos_of_ne_zero h) (by omega)
/-- The document's number. -/
abbrev numD (z : Int) : D := nD (decide (z < 0)) (canL z.natAbs)
end Go.Proofs.Ytbjmdnemeidpjaa
/- Numbers of any length: made, Whole, Of, Neg over whole numbers. -/
namespace Go.Proofs.Ytbjmdnemeidpjaa
set_option linter.unusedSimpArgs false
set_option linter.unusedVariables false
open Go.RowKit
set_option maxRecDepth 100000
end Go.Proofs.Ytbjmdnemeidpjaa
/- Numbers of any length: above. -/
namespace Go.Proofs.Ytbjmdnemeidpjaa
set_option linter.unusedSimpArgs false
set_option linter.unusedVariables false
open Go.RowKit
set_option maxRecDepth 100000
def lb (l : List Int) (i : Nat) : Int := (l[i]?).getD 0
theorem lb_dig {l : List Int} (h : digL l) (i : Nat) : 0 ≤ lb l i ∧ lb l i < 65536 := by
  unfold lb
  cases hx : l[i]? with
  | none => simp
  | some x => exact h x (List.mem_of_getElem? hx)
theorem valL_drop : ∀ (l : List Int) (i : Nat), valL (l.drop i) = (lb l i).toNat + 65536 * valL (l.drop (i + 1))
  | [], i => by simp [valL, lb]
  | d :: l, 0 => by simp [valL, lb]
  | d :: l, i + 1 => by
    have := valL_drop l i
    simpa [lb] using this
theorem valL_take : ∀ (l : List Int) (i : Nat), digL l → valL l = valL (l.take i) + 65536 ^ i * valL (l.drop i) ∧ valL (l.take i) < 65536 ^ i
  | l, 0, _ => by simp [valL]
  | [], i + 1, _ => by simp [valL]; exact Nat.pos_of_ne_zero (by simp)
  | d :: l, i + 1, h => by
    have hd := h d (List.mem_cons_self ..)
    obtain ⟨h1, h2⟩ := valL_take l i fun x hx => h x (List.mem_cons_of_mem _ hx)
    rw [List.take_succ_cons, List.drop_succ_cons, valL, valL]
    have e : 65536 ^ (i + 1) * valL (l.drop i) = 65536 * (65536 ^ i * valL (l.drop i)) := by rw [Nat.pow_succ, Nat.mul_comm (65536 ^ i) 65536, Nat.mul_assoc]
    have e2 : 65536 ^ (i + 1) = 65536 * 65536 ^ i := by rw [Nat.pow_succ, Nat.mul_comm]
    omega
end Go.Proofs.Ytbjmdnemeidpjaa
/- Numbers of any length: plus. -/
namespace Go.Proofs.Ytbjmdnemeidpjaa
set_option linter.unusedSimpArgs false
set_option linter.unusedVariables false
open Go.RowKit
set_option maxRecDepth 100000
theorem valL_snoc : ∀ (l : List Int) (d : Int), valL (l ++ [d]) = valL l + 65536 ^ l.length * d.toNat
  | [], d => by simp [valL]
  | x :: l, d => by
    rw [List.cons_append, valL, valL_snoc l d, valL, List.length_cons, Nat.pow_succ, Nat.mul_comm (65536 ^ l.length) 65536, Nat.mul_assoc, Nat.mul_add]
    omega
theorem digL_snoc {l : List Int} {d : Int} (h : digL l) (h0 : 0 ≤ d) (h1 : d < 65536) : digL (l ++ [d]) := fun x hx => by
  rcases List.mem_append.1 hx with q | q
  · exact h x q
  · simp at q; subst q; exact ⟨h0, h1⟩
/-- How far a sum has come. -/
structure PlusI (a b : List Int) (k : Nat) (c : Int) (out : List Int) : Prop where
  len : out.length = k
  dig : digL out
  c0 : 0 ≤ c
  c1 : c ≤ 1
  eq : valL out + 65536 ^ k * (c.toNat + valL (a.drop k) + valL (b.drop k)) = valL a + valL b
theorem PlusI.next {a b : List Int} {k : Nat} {c : Int} {out : List Int} (I : PlusI a b k c out) (da : digL a) (db : digL b) : PlusI a b (k + 1) ((c + (lb a k + lb b k)) / 65536) (out ++ [(c + (lb a k + lb b k)) % 65536]) := by
  obtain ⟨h1, h2, h3, h4, h5⟩ := I
  have ha := lb_dig da k
  have hb := lb_dig db k
  refine ⟨by simp [h1], digL_snoc h2 (by omega) (by omega), by omega, by omega, ?_⟩
  rw [valL_snoc, h1, ← h5, valL_drop a k, valL_drop b k, Nat.pow_succ, Nat.mul_assoc, Nat.add_assoc, ← Nat.mul_add]
  congr 2
  omega
theorem PlusI.fin {a b : List Int} {k : Nat} {c : Int} {out : List Int} (I : PlusI a b k c out) (da : digL a) (db : digL b) (hk : k = max a.length b.length + 1) : valL out = valL a + valL b := by
  obtain ⟨h1, h2, h3, h4, h5⟩ := I
  rw [List.drop_eq_nil_of_le (by omega), List.drop_eq_nil_of_le (by omega)] at h5
  simp only [valL, Nat.add_zero] at h5
  have hva := (valL_take a (max a.length b.length) da).2
  have hvb := (valL_take b (max a.length b.length) db).2
  rw [List.take_of_length_le (by omega)] at hva hvb
  rw [hk, Nat.pow_succ] at h5
  rcases Nat.eq_zero_or_pos c.toNat with h0 | h0
  · rw [h0] at h5; omega
  · have : c.toNat = 1 := by omega
    rw [this] at h5
    omega
end Go.Proofs.Ytbjmdnemeidpjaa
/- Numbers of any length: minus. -/
namespace Go.Proofs.Ytbjmdnemeidpjaa
set_option linter.unusedSimpArgs false
set_option linter.unusedVariables false
open Go.RowKit
set_option maxRecDepth 100000
/-- How far a difference has come: c is borrowed. -/
structure MinI (a b : List Int) (k : Nat) (c : Int) (out : List Int) : Prop where
  len : out.length = k
  dig : digL out
  c0 : 0 ≤ c
  c1 : c ≤ 1
  eq : (valL out : Int) + 65536 ^ k * ((valL (a.drop k) : Int) - valL (b.drop k) - c) = (valL a : Int) - valL b
theorem MinI.next {a b : List Int} {k : Nat} {c : Int} {out : List Int} (I : MinI a b k c out) (da : digL a) (db : digL b) : MinI a b (k + 1) (if lb a k - lb b k - c < 0 then 1 else 0) (out ++ [if lb a k - lb b k - c < 0 then lb a k - lb b k - c + 65536 else lb a k - lb b k - c]) := by
  obtain ⟨h1, h2, h3, h4, h5⟩ := I
  have ha := lb_dig da k
  have hb := lb_dig db k
  have e : ∀ (x q : Int), x = lb a k - lb b k - c + 65536 * q → 0 ≤ x → (valL (out ++ [x]) : Int) + 65536 ^ (k + 1) * ((valL (a.drop (k + 1)) : Int) - valL (b.drop (k + 1)) - q) = (valL a : Int) - valL b := by
    intro x q hx hx0
    rw [valL_snoc, h1, ← h5, valL_drop a k, valL_drop b k, Int.pow_succ]
    simp only [Int.natCast_add, Int.natCast_mul, Int.natCast_pow, Int.toNat_of_nonneg hx0, Int.toNat_of_nonneg ha.1, Int.toNat_of_nonneg hb.1, show ((65536 : Nat) : Int) = 65536 from rfl]
    rw [Int.mul_assoc, Int.add_assoc, ← Int.mul_add]
    congr 2
    rw [hx]
    omega
  by_cases hn : lb a k - lb b k - c < 0
  · rw [if_pos hn, if_pos hn]
    exact ⟨by simp [h1], digL_snoc h2 (by omega) (by omega), by omega, by omega, e _ 1 (by omega) (by omega)⟩
  · rw [if_neg hn, if_neg hn]
    exact ⟨by simp [h1], digL_snoc h2 (by omega) (by omega), by omega, by omega, e _ 0 (by omega) (by omega)⟩
theorem MinI.fin {a b : List Int} {c : Int} {out : List Int} (I : MinI a b a.length c out) (da : digL a) (db : digL b) (h : valL b ≤ valL a) : valL out = valL a - valL b := by
  obtain ⟨h1, h2, h3, h4, h5⟩ := I
  have hb := (valL_take b a.length db).1
  have ha := (valL_take a a.length da).2
  rw [List.take_length] at ha
  have ho := (valL_take out out.length h2).2
  rw [List.take_length, h1] at ho
  rw [List.drop_eq_nil_of_le (Nat.le_refl _)] at h5
  generalize valL (b.drop a.length) = B at *
  have hB : B = 0 := by
    rcases Nat.eq_zero_or_pos B with q | q
    · exact q
    · have : 65536 ^ a.length * 1 ≤ 65536 ^ a.length * B := Nat.mul_le_mul_left _ q
      omega
  subst hB
  simp only [valL, Int.natCast_zero, Int.sub_zero, Int.zero_sub] at h5
  have hp : ((65536 : Int) ^ a.length) = ((65536 ^ a.length : Nat) : Int) := by simp
  rw [hp] at h5
  rcases (show c = 0 ∨ c = 1 by omega) with q | q
  · subst q; simp at h5; omega
  · subst q; simp at h5; omega
end Go.Proofs.Ytbjmdnemeidpjaa
/- Numbers of any length: Add, Cmp. -/
namespace Go.Proofs.Ytbjmdnemeidpjaa
set_option linter.unusedSimpArgs false
set_option linter.unusedVariables false
open Go.RowKit
set_option maxRecDepth 100000
end Go.Proofs.Ytbjmdnemeidpjaa
/- Numbers of any length: bounds of their lengths; Cmp. -/
namespace Go.Proofs.Ytbjmdnemeidpjaa
set_option linter.unusedSimpArgs false
set_option linter.unusedVariables false
open Go.RowKit
set_option maxRecDepth 100000
end Go.Proofs.Ytbjmdnemeidpjaa
/- Numbers of any length: Long. -/
namespace Go.Proofs.Ytbjmdnemeidpjaa
set_option linter.unusedSimpArgs false
set_option linter.unusedVariables false
open Go.RowKit
set_option maxRecDepth 100000
end Go.Proofs.Ytbjmdnemeidpjaa
/- Numbers of any length: told, Plus, Minus, Total, Sum. -/
namespace Go.Proofs.Ytbjmdnemeidpjaa
set_option linter.unusedSimpArgs false
set_option linter.unusedVariables false
open Go.RowKit
set_option maxRecDepth 100000
end Go.Proofs.Ytbjmdnemeidpjaa
/- Bits of limbs. -/
namespace Go.Proofs.Ytbjmdnemeidpjaa
set_option linter.unusedSimpArgs false
set_option linter.unusedVariables false
open Go.RowKit
end Go.Proofs.Ytbjmdnemeidpjaa
/- Numbers of any length: Div. -/
namespace Go.Proofs.Ytbjmdnemeidpjaa
set_option linter.unusedSimpArgs false
set_option linter.unusedVariables false
open Go.RowKit
set_option maxRecDepth 100000
end Go.Proofs.Ytbjmdnemeidpjaa
/- Numbers of any length: Mul. -/
namespace Go.Proofs.Ytbjmdnemeidpjaa
set_option linter.unusedSimpArgs false
set_option linter.unusedVariables false
open Go.RowKit
set_option maxRecDepth 100000
theorem valL_set : ∀ (l : List Int) (j : Nat) (d : Int), j < l.length → valL (l.set j d) + 65536 ^ j * (lb l j).toNat = valL l + 65536 ^ j * d.toNat
  | [], j, d, h => by simp at h
  | x :: l, 0, d, h => by simp [valL, lb]; omega
  | x :: l, j + 1, d, h => by
    have ih := valL_set l j d (by simpa using h)
    have e : lb (x :: l) (j + 1) = lb l j := by simp [lb]
    rw [List.set_cons_succ, valL, valL, e, Nat.pow_succ, Nat.mul_comm (65536 ^ j) 65536, Nat.mul_assoc, Nat.mul_assoc]
    omega
theorem digL_set {l : List Int} {j : Nat} {d : Int} (h : digL l) (h0 : 0 ≤ d) (h1 : d < 65536) : digL (l.set j d) := fun x hx => by
  rcases List.mem_or_eq_of_mem_set hx with e | e
  · exact h x e
  · subst e; exact ⟨h0, h1⟩
theorem valL_take_succ (l : List Int) (i : Nat) (hd : digL l) : valL (l.take (i + 1)) = valL (l.take i) + 65536 ^ i * (lb l i).toNat := by
  have h1 := (valL_take l i hd).1
  have h2 := (valL_take l (i + 1) hd).1
  have h3 := valL_drop l i
  rw [h3, Nat.mul_add, ← Nat.mul_assoc, ← Nat.pow_succ] at h1
  generalize 65536 ^ (i + 1) * valL (l.drop (i + 1)) = Z at h1 h2
  omega
theorem valL_take_all {l : List Int} {k : Nat} (h : l.length ≤ k) : valL (l.take k) = valL l := by rw [List.take_of_length_le h]
/-- How far a row of a product has come. -/
structure MulI (a b : List Int) (i k : Nat) (c : Int) (out : List Int) : Prop where
  len : out.length = a.length + b.length + 1
  dig : digL out
  c0 : 0 ≤ c
  c1 : c ≤ 65535
  val : valL out + 65536 ^ (i + k) * c.toNat = valL (a.take i) * valL b + 65536 ^ i * (lb a i).toNat * valL (b.take k)
theorem MulI.next {a b : List Int} {i k : Nat} {c : Int} {out : List Int} (I : MulI a b i k c out) (da : digL a) (db : digL b) (hx : i + k < out.length) :
    MulI a b i (k + 1) ((c + (lb out (i + k) + lb a i * lb b k)) / 65536) (out.set (i + k) ((c + (lb out (i + k) + lb a i * lb b k)) % 65536)) := by
  have ha := lb_dig da i
  have hb := lb_dig db k
  have ho := lb_dig I.dig (i + k)
  have h0 := I.c0
  have h1 := I.c1
  have hm : lb a i * lb b k ≤ 65535 * 65535 := Int.mul_le_mul (by omega) (by omega) (by omega) (by omega)
  have hm0 : 0 ≤ lb a i * lb b k := Int.mul_nonneg ha.1 hb.1
  have hmt : (lb a i * lb b k).toNat = (lb a i).toNat * (lb b k).toNat := Int.toNat_mul ha.1 hb.1
  have hv := I.val
  have hs := valL_set out (i + k) ((c + (lb out (i + k) + lb a i * lb b k)) % 65536) hx
  have ht := valL_take_succ b k db
  refine ⟨by rw [List.length_set]; exact I.len, digL_set I.dig (by omega) (by omega), by omega, by omega, ?_⟩
  rw [ht]
  generalize hp : lb a i * lb b k = p at *
  have e1 : ((c + (lb out (i + k) + p)) / 65536).toNat * 65536 + ((c + (lb out (i + k) + p)) % 65536).toNat = c.toNat + (lb out (i + k)).toNat + p.toNat := by omega
  generalize ((c + (lb out (i + k) + p)) / 65536).toNat = q at *
  generalize hr : ((c + (lb out (i + k) + p)) % 65536) = r at *
  rw [← Nat.add_assoc i k 1, Nat.pow_succ, Nat.mul_assoc, Nat.mul_comm 65536 q]
  have e2 : 65536 ^ (i + k) * (q * 65536) + 65536 ^ (i + k) * r.toNat = 65536 ^ (i + k) * c.toNat + 65536 ^ (i + k) * (lb out (i + k)).toNat + 65536 ^ (i + k) * p.toNat := by
    rw [← Nat.mul_add, e1, Nat.mul_add, Nat.mul_add]
  have e3 : 65536 ^ i * (lb a i).toNat * (valL (b.take k) + 65536 ^ k * (lb b k).toNat) = 65536 ^ i * (lb a i).toNat * valL (b.take k) + 65536 ^ (i + k) * p.toNat := by
    rw [Nat.mul_add, hmt, Nat.pow_add]
    congr 1
    rw [Nat.mul_assoc, Nat.mul_assoc, Nat.mul_left_comm (lb a i).toNat]
  rw [e3]
  omega
theorem MulI.fin {a b : List Int} {i k : Nat} {c : Int} {out : List Int} (I : MulI a b i k c out) (da : digL a) (hk : b.length ≤ k) (hc : c ≤ 0) : valL out = valL (a.take (i + 1)) * valL b := by
  have hv := I.val
  rw [show c = 0 by have := I.c0; omega, valL_take_all hk] at hv
  rw [valL_take_succ a i da, Nat.add_mul]
  simpa using hv
end Go.Proofs.Ytbjmdnemeidpjaa
/- Numbers of any length: plain bounds. -/
namespace Go.Proofs.Ytbjmdnemeidpjaa
set_option linter.unusedSimpArgs false
set_option linter.unusedVariables false
open Go.RowKit
set_option maxRecDepth 100000
end Go.Proofs.Ytbjmdnemeidpjaa
/- Numbers of any length: sums of rows, two words. -/
namespace Go.Proofs.Ytbjmdnemeidpjaa
set_option linter.unusedSimpArgs false
set_option linter.unusedVariables false
open Go.RowKit
set_option maxRecDepth 100000
theorem sum_abs : ∀ (l : List Int), (∀ z ∈ l, in64 z) → l.sum.natAbs ≤ l.length * 9223372036854775808
  | [], _ => by simp
  | x :: l, h => by
    have h1 := h x (List.mem_cons_self ..)
    have h2 := sum_abs l fun z hz => h z (List.mem_cons_of_mem _ hz)
    unfold in64 at h1
    rw [List.sum_cons, List.length_cons, Nat.add_mul]
    omega
/-! ### two words -/
def word : Int := 18446744073709551616
/-- The number of two words. -/
def wideZ (hi lo : Int) : Int := hi * word + lo
/-- The two words of a number. -/
def hiZ (z : Int) : Int := z / word
def loZ (z : Int) : Int := z % word
theorem wide_split (z : Int) : wideZ (hiZ z) (loZ z) = z := by unfold wideZ hiZ loZ word; omega
instance in64_dec (z : Int) : Decidable (in64 z) := by unfold in64; infer_instance
end Go.Proofs.Ytbjmdnemeidpjaa
/- The histograms' contracts, as the conditions want them. -/
namespace Go.Proofs.Ytbjmdnemeidpjaa
set_option linter.unusedSimpArgs false
set_option linter.unusedVariables false
open Go.RowKit
set_option maxRecDepth 100000
theorem Sat.of_sl {P : Program} {g : FuncId} {s : Nat} {rows : List (List D)} {us : List Value} {args : List AV} {vals : List Value} {r : AV} {rv : Value} (hf : FlatVs rows.flatten us) (ha : FlatWs args vals) (hr : FlatW r rv)
    (h : ∀ (w : World) (A : Option Addr) (c : Nat), rows.length ≤ c → c ≤ maxLen → Rd w w.heap.size s A rows.length us → Calls P g (Value.slice A rows.length c :: vals).toArray w fun e w' => e = .returned rv ∧ Below w.heap.size w w') : Sat P g (.d (.sl s rows) :: args) [] r [] := by
  intro F ρ w vs En hv
  cases hv with | cons hv hvs => cases hv with | d hv =>
  obtain ⟨A, c, rfl, h1, h2, h3⟩ := hv.sl_rd En.fb hf
  have := ha.eq hvs
  subst this
  refine (h w A c h1 h2 h3).mono ?_
  rintro e w' ⟨rfl, hb⟩
  obtain ⟨S, E'⟩ := step_below En hb
  exact ⟨rv, rfl, F, ρ, S, Keep.refl _, E', hr.ra⟩
abbrev hR (l : List Int) : List D := l.map iD
abbrev hD (l : List Int) : D := .agg (hR l)
theorem hR_flat : ∀ (l : List Int), FlatVs (hR l) (l.map i64v)
  | [] => .nil
  | z :: l => .cons (.v _) rfl (hR_flat l)
theorem hD_flat (l : List Int) : FlatV (hD l) (.agg (hc l)) := .agg (hR_flat l)
theorem lR_flats : ∀ (l : List Int), FlatVs (l.map lR).flatten (l.map i64v)
  | [] => .nil
  | z :: l => .cons (.v _) rfl (lR_flats l)
/-- A wide number. -/
abbrev wD (z : Int) : D := .agg [.v (.int .i64 (hiZ z)), .v (.int .u64 (loZ z))]
theorem wD_flat (z : Int) : FlatV (wD z) (.agg (wv z)) := .agg (.cons (.v _) rfl (.cons (.v _) rfl .nil))
theorem bucket_sat (v : Int) (h : in64 v) : Sat Try.prog 34 [iA v] [] (iA (bkt v)) [] :=
  .of_same (.cons (.d (.v _)) .nil) (.d (.v _)) fun w => bucket_any v w h.1 h.2
theorem of_sat (l : List Int) (hl : ∀ z ∈ l, in64 z) (hn : l.length ≤ 140737488351232) : Sat Try.prog 30 [.d (lD l)] [] (.d (hD (histL l))) [] :=
  .of_sl (lR_flats l) .nil (.d (hD_flat _)) fun w A c _ _ hr => by
    rw [List.length_map] at hr ⊢
    exact of_any A l.length c l w hr hn hl
theorem add_sat (l : List Int) (v : Int) (hl : l.length = 65) (hv : in64 v) (hx : ∀ z ∈ l, in64 z) : Sat Try.prog 41 [.d (hD l), iA v] [] (.tup [.d (hD (addL l v)), iA (addE l v)]) [] :=
  .of_calls (.cons (.d (hD_flat l)) (.cons (.d (.v _)) .nil)) (.tup (.cons (.d (hD_flat _)) (.cons (.d (.v _)) .nil))) fun w => add_any l v w hl hv.1 hv.2 fun z hz => (hx z hz).2
theorem total_sat (l : List Int) (hl : l.length = 65) (hx : ∀ z ∈ l, in64 z) : Sat Try.prog 28 [.d (hD l)] [] (.d (wD l.sum)) [] :=
  .of_calls (.cons (.d (hD_flat l)) .nil) (.d (wD_flat _)) fun w => total_any l w hl hx
end Go.Proofs.Ytbjmdnemeidpjaa
/- Histograms, the plain laws: counts, running sums, ranks, parts; the document's Bucket; arrays compared. -/
namespace Go.Proofs.Ytbjmdnemeidpjaa
open Go.RowKit
set_option linter.unusedVariables false
set_option linter.unusedSimpArgs false
def inL (xs : List Int) : Prop := ∀ x ∈ xs, -9223372036854775808 ≤ x ∧ x ≤ 9223372036854775807
theorem foldBump_len : ∀ (xs l : List Int), (xs.foldl (fun l v => bump l (bkt v)) l).length = l.length
  | [], l => rfl
  | x :: r, l => by rw [List.foldl_cons, foldBump_len r, bump_len]
theorem histL_len (xs : List Int) : (histL xs).length = 65 := by unfold histL; rw [foldBump_len]; rfl
theorem foldBump_get : ∀ (xs l : List Int) (b : Nat), l.length = 65 → b < 65 → (xs.foldl (fun l v => bump l (bkt v)) l)[b]?.getD 0 = l[b]?.getD 0 + (xs.countP (fun v => bkt v == b) : Nat)
  | [], l, b, _, _ => by simp
  | x :: r, l, b, hl, hb => by
    rw [List.foldl_cons, foldBump_get r _ b (by rw [bump_len]; exact hl) hb, List.countP_cons]
    unfold bump
    rw [List.getElem?_set]
    by_cases h : bkt x = b
    · subst h; simp [hl, hb]; omega
    · simp [h]
theorem histL_get (xs : List Int) (b : Nat) (hb : b < 65) : (histL xs)[b]?.getD 0 = (xs.countP (fun v => bkt v == b) : Nat) := by
  unfold histL
  rw [foldBump_get xs z65 b rfl hb]
  have : z65[b]?.getD 0 = 0 := by
    unfold z65
    rw [List.getElem?_replicate, if_pos hb]; rfl
  rw [this]; omega
theorem histL_mem (xs : List Int) (x : Int) (h : x ∈ histL xs) : 0 ≤ x ∧ x ≤ xs.length := by
  obtain ⟨b, hb, he⟩ := List.getElem_of_mem h
  have h1 := histL_get xs b (by rw [histL_len] at hb; exact hb)
  rw [List.getElem?_eq_getElem hb, he] at h1
  simp at h1
  have := List.countP_le_length (p := fun v => bkt v == b) (l := xs)
  omega
theorem histL_ok (xs : List Int) : okH (histL xs) = true := by
  unfold okH
  rw [List.all_eq_true]
  intro x hx
  exact decide_eq_true (histL_mem xs x hx).1
theorem countP_lt_succ (xs : List Int) (j : Nat) : xs.countP (fun v => decide (bkt v < j + 1)) = xs.countP (fun v => decide (bkt v < j)) + xs.countP (fun v => bkt v == j) := by
  induction xs with
  | nil => rfl
  | cons x r ih =>
    simp only [List.countP_cons, ih, decide_eq_true_eq, beq_iff_eq]
    rcases Nat.lt_trichotomy (bkt x) j with h | h | h
    · rw [if_pos (by omega), if_pos h, if_neg (by omega)]; omega
    · rw [if_pos (by omega), if_neg (by omega), if_pos h]; omega
    · rw [if_neg (by omega), if_neg (by omega), if_neg (by omega)]; omega
theorem histL_cum (xs : List Int) : ∀ j, j ≤ 65 → ((histL xs).take j).sum = (xs.countP (fun v => decide (bkt v < j)) : Nat)
  | 0, _ => by simp
  | j + 1, hj => by
    have hx : (histL xs)[j]? = some ((histL xs)[j]'(by rw [histL_len]; omega)) := List.getElem?_eq_getElem _
    have h1 := histL_get xs j (by omega)
    rw [hx] at h1
    rw [List.take_add_one, List.sum_append, histL_cum xs j (by omega), countP_lt_succ, hx]
    simp at h1 ⊢
    omega
theorem countP_all65 (xs : List Int) (hx : inL xs) : xs.countP (fun v => decide (bkt v < 65)) = xs.length := by
  rw [List.countP_eq_length]
  intro x h
  exact decide_eq_true (bkt_lt x (hx x h).2)
theorem histL_sum (xs : List Int) (hx : inL xs) : (histL xs).sum = xs.length := by
  have h := histL_cum xs 65 (Nat.le_refl _)
  rw [List.take_of_length_le (by rw [histL_len]; exact Nat.le_refl _), countP_all65 xs hx] at h
  exact h
theorem histL_snoc (xs : List Int) (v : Int) : histL (xs ++ [v]) = bump (histL xs) (bkt v) := by unfold histL; rw [List.foldl_append]; rfl
/-! ### arrays compared -/
/-! ### the document's Bucket -/
theorem bitLen_pos {x : Nat} (h0 : x ≠ 0) (h : x < 9223372036854775808) : Lib.bitLen x = Lib.bitLen (x / 2) + 1 := by
  unfold Lib.bitLen
  rw [show (64 : Nat) = 63 + 1 from rfl, Lib.bitLenAux, if_neg h0, ← Lib.bitLenAux_fuel 63 (x / 2) (by omega) (63 + 1) (by omega)]
  omega
end Go.Proofs.Ytbjmdnemeidpjaa
/- The document's histograms: Of, right, Merge, Rank. -/
namespace Go.Proofs.Ytbjmdnemeidpjaa
set_option linter.unusedSimpArgs false
set_option linter.unusedVariables false
open Go.RowKit
set_option maxRecDepth 100000
theorem hR_len (l : List Int) : (hR l).length = l.length := List.length_map _
theorem drop_row {l : List Int} {k : Nat} {x : Int} (hx : l[k]? = some x) : (hR l).drop (0 + k * 1) = iD x :: (hR l).drop (k + 1) := by
  obtain ⟨hk, rfl⟩ := List.getElem?_eq_some_iff.1 hx
  rw [Nat.zero_add, Nat.mul_one, List.drop_eq_getElem_cons (by rw [hR_len]; exact hk)]
  simp [hR]
theorem all_take {p : Int → Bool} {l : List Int} {k : Nat} {x : Int} (hx : l[k]? = some x) : (l.take (k + 1)).all p = ((l.take k).all p && p x) := all_take_succ hx
theorem whole_row {s : Nat} {h : List Int} (hs : s = 65) (hl : h.length = 65) : ((hR h).drop 0).take s = hR h := by
  rw [List.drop_zero, List.take_of_length_le (by rw [hR_len]; omega)]
theorem whole_len {s : Nat} {h : List Int} (hs : s = 65) (hl : h.length = 65) : (hR h).length = s := by rw [hR_len]; omega
theorem rows_whole {l h : List Int} (hl : l.length = 65) (hh : h.length = 65) : sets (hR l) 0 (hR h) = hR h := by
  rw [sets_eq _ _ _ (by rw [hR_len, hR_len]; omega), List.drop_of_length_le (by rw [hR_len, hR_len]; omega)]
  simp
theorem sets_fit {l h : List Int} (hl : l.length = 65) (hh : h.length = 65) : 0 + (hR h).length ≤ (hR l).length := by rw [hR_len, hR_len]; omega
theorem z65_len : z65.length = 65 := rfl
theorem hR_take {s : Nat} {h : List Int} (hs : s = 65) (hl : h.length = 65) : (hR h).take s = hR h := List.take_of_length_le (by rw [hR_len]; omega)
end Go.Proofs.Ytbjmdnemeidpjaa
/- Cells, in plain Lean: fold, right, note, merge; sums of 128 bits. -/
namespace Go.Proofs.Ytbjmdnemeidpjaa
set_option linter.unusedSimpArgs false
set_option linter.unusedVariables false
open Go.RowKit
set_option linter.unusedSectionVars false
/-- A cell: how many values, their sum, the least, the greatest, the tallies, the buckets. -/
structure Cel where
  n : Int
  s : Int
  mn : Int
  mx : Int
  ce : Int
  po : Int
  h : List Int
deriving DecidableEq
theorem Cel.ext' {a b : Cel} (h1 : a.n = b.n) (h2 : a.s = b.s) (h3 : a.mn = b.mn) (h4 : a.mx = b.mx) (h5 : a.ce = b.ce) (h6 : a.po = b.po) (h7 : a.h = b.h) : a = b := by
  cases a; cases b; simp_all
def zC : Cel := ⟨0, 0, 0, 0, 0, 0, z65⟩
def in128 (z : Int) : Prop := in64 (hiZ z)
instance (z : Int) : Decidable (in128 z) := by unfold in128 in64; infer_instance
structure CelOK (c : Cel) : Prop where
  n : in64 c.n
  s : in128 c.s
  mn : in64 c.mn
  mx : in64 c.mx
  ce : in64 c.ce
  po : in64 c.po
  hl : c.h.length = 65
  hx : ∀ z ∈ c.h, in64 z
/-- The least and the greatest of what has come. -/
def mmin (l : List Int) : Int := match l with | [] => 0 | x :: r => r.foldl min x
def mmax (l : List Int) : Int := match l with | [] => 0 | x :: r => r.foldl max x
def foldC (l : List Int) : Cel := ⟨l.length, l.sum, mmin l, mmax l, 0, 0, histL l⟩
def hAt (h : List Int) (b : Nat) : Int := h[b]?.getD 0
def inB (c : Cel) : Bool := (List.range 65).all fun b => decide (hAt c.h b = 0 ∨ (bkt c.mn ≤ b ∧ b ≤ bkt c.mx))
def rightC (c : Cel) : Bool := decide (0 ≤ c.n ∧ 0 ≤ c.ce ∧ 0 ≤ c.po ∧ c.mn ≤ c.mx) && okH c.h && decide (c.h.sum = c.n) &&
  (if c.n = 0 then decide (c.s = 0 ∧ c.mn = 0 ∧ c.mx = 0) else decide (hAt c.h (bkt c.mn) ≠ 0 ∧ hAt c.h (bkt c.mx) ≠ 0) && inB c)
def big : Int := 9223372036854775807
def noteC (c : Cel) (b : Bool) : Cel × Int := if rightC c = false then (zC, 10) else
  if (if b then c.ce else c.po) = big then (zC, 12) else (⟨c.n, c.s, c.mn, c.mx, if b then c.ce + 1 else c.ce, if b then c.po else c.po + 1, c.h⟩, 0)
def addC (c : Cel) (v : Int) : Cel × Int := if rightC c = false then (zC, 10) else
  if c.n = big then (zC, 12) else if ¬ in128 (c.s + v) then (zC, 12) else
  (⟨c.n + 1, c.s + v, if c.n = 0 then v else min c.mn v, if c.n = 0 then v else max c.mx v, c.ce, c.po, bump c.h (bkt v)⟩, 0)
/-! ### the least and the greatest -/
theorem foldl_min : ∀ (r : List Int) (x y : Int), min y (r.foldl min x) = r.foldl min (min y x)
  | [], _, _ => rfl
  | z :: r, x, y => by rw [List.foldl_cons, List.foldl_cons, foldl_min r, Int.min_assoc]
theorem foldl_max : ∀ (r : List Int) (x y : Int), max y (r.foldl max x) = r.foldl max (max y x)
  | [], _, _ => rfl
  | z :: r, x, y => by rw [List.foldl_cons, List.foldl_cons, foldl_max r, Int.max_assoc]
theorem mmin_snoc (l : List Int) (v : Int) : mmin (l ++ [v]) = if l = [] then v else min (mmin l) v := by
  cases l with
  | nil => rfl
  | cons x r => simp [mmin, List.foldl_append]
theorem mmax_snoc (l : List Int) (v : Int) : mmax (l ++ [v]) = if l = [] then v else max (mmax l) v := by
  cases l with
  | nil => rfl
  | cons x r => simp [mmax, List.foldl_append]
theorem mmin_mem : ∀ (l : List Int), l ≠ [] → mmin l ∈ l ∧ ∀ x ∈ l, mmin l ≤ x := by
  intro l h
  match l, h with
  | x :: r, _ =>
    clear h
    induction r generalizing x with
    | nil => simp [mmin]
    | cons y r ih =>
      have e : mmin (x :: y :: r) = min x (mmin (y :: r)) := by simp only [mmin, List.foldl_cons]; rw [foldl_min]
      obtain ⟨h1, h2⟩ := ih y (by simp)
      rw [e]
      refine ⟨?_, fun z hz => ?_⟩
      · rcases Int.le_total x (mmin (y :: r)) with q | q
        · rw [Int.min_eq_left q]; exact List.mem_cons_self ..
        · rw [Int.min_eq_right q]; exact List.mem_cons_of_mem _ h1
      · rcases List.mem_cons.1 hz with q | q
        · subst q; exact Int.min_le_left _ _
        · exact Int.le_trans (Int.min_le_right _ _) (h2 z q)
theorem mmax_mem : ∀ (l : List Int), l ≠ [] → mmax l ∈ l ∧ ∀ x ∈ l, x ≤ mmax l := by
  intro l h
  match l, h with
  | x :: r, _ =>
    clear h
    induction r generalizing x with
    | nil => simp [mmax]
    | cons y r ih =>
      have e : mmax (x :: y :: r) = max x (mmax (y :: r)) := by simp only [mmax, List.foldl_cons]; rw [foldl_max]
      obtain ⟨h1, h2⟩ := ih y (by simp)
      rw [e]
      refine ⟨?_, fun z hz => ?_⟩
      · rcases Int.le_total x (mmax (y :: r)) with q | q
        · rw [Int.max_eq_right q]; exact List.mem_cons_of_mem _ h1
        · rw [Int.max_eq_left q]; exact List.mem_cons_self ..
      · rcases List.mem_cons.1 hz with q | q
        · subst q; exact Int.le_max_left _ _
        · exact Int.le_trans (h2 z q) (Int.le_max_right _ _)
theorem mm_in {l : List Int} (h : ∀ z ∈ l, in64 z) : in64 (mmin l) ∧ in64 (mmax l) := by
  by_cases e : l = []
  · subst e; exact ⟨by unfold in64; simp [mmin], by unfold in64; simp [mmax]⟩
  · exact ⟨h _ (mmin_mem l e).1, h _ (mmax_mem l e).1⟩
/-! ### what a right cell is -/
structure RightC (c : Cel) : Prop where
  n : 0 ≤ c.n
  ce : 0 ≤ c.ce
  po : 0 ≤ c.po
  mm : c.mn ≤ c.mx
  ok : okH c.h = true
  sum : c.h.sum = c.n
  zero : c.n = 0 → c.s = 0 ∧ c.mn = 0 ∧ c.mx = 0
  low : c.n ≠ 0 → hAt c.h (bkt c.mn) ≠ 0
  high : c.n ≠ 0 → hAt c.h (bkt c.mx) ≠ 0
  all : c.n ≠ 0 → ∀ b, b < 65 → hAt c.h b ≠ 0 → bkt c.mn ≤ b ∧ b ≤ bkt c.mx
theorem right_iff {c : Cel} : rightC c = true ↔ RightC c := by
  unfold rightC
  simp only [Bool.and_eq_true, decide_eq_true_eq]
  constructor
  · rintro ⟨⟨⟨⟨h1, h2, h3, h4⟩, h5⟩, h6⟩, h7⟩
    by_cases e : c.n = 0
    · rw [if_pos e] at h7
      have h7 := of_decide_eq_true h7
      exact ⟨h1, h2, h3, h4, h5, h6, fun _ => h7, fun h => absurd e h, fun h => absurd e h, fun h => absurd e h⟩
    · rw [if_neg e, Bool.and_eq_true] at h7
      have h8 := of_decide_eq_true h7.1
      refine ⟨h1, h2, h3, h4, h5, h6, fun h => absurd h e, fun _ => h8.1, fun _ => h8.2, fun _ b hb hne => ?_⟩
      have := List.all_eq_true.1 h7.2 b (List.mem_range.2 hb)
      have := of_decide_eq_true this
      rcases this with q | q
      · exact absurd q hne
      · exact q
  · intro h
    refine ⟨⟨⟨⟨h.n, h.ce, h.po, h.mm⟩, h.ok⟩, h.sum⟩, ?_⟩
    by_cases e : c.n = 0
    · rw [if_pos e]; exact decide_eq_true (h.zero e)
    · rw [if_neg e, Bool.and_eq_true]
      refine ⟨decide_eq_true ⟨h.low e, h.high e⟩, List.all_eq_true.2 fun b hb => decide_eq_true ?_⟩
      by_cases q : hAt c.h b = 0
      · exact .inl q
      · exact .inr (h.all e b (List.mem_range.1 hb) q)
end Go.Proofs.Ytbjmdnemeidpjaa
/- Cells, in plain Lean: what is folded is right; one more value; notes; the order makes no difference. -/
namespace Go.Proofs.Ytbjmdnemeidpjaa
set_option linter.unusedSimpArgs false
set_option linter.unusedVariables false
open Go.RowKit
set_option linter.unusedSectionVars false
theorem bitLen_mono (y : Nat) : ∀ x : Nat, x ≤ y → y < 9223372036854775808 → Lib.bitLen x ≤ Lib.bitLen y := by
  induction y using Nat.strongRecOn with
  | ind y ih =>
    intro x hx hy
    by_cases h0 : x = 0
    · subst h0
      have : Lib.bitLen 0 = 0 := by decide
      omega
    · rw [bitLen_pos h0 (by omega), bitLen_pos (x := y) (by omega) hy]
      have := ih (y / 2) (by omega) (x / 2) (by omega) (by omega)
      omega
theorem bkt_mono {x y : Int} (h : x ≤ y) (hy : y ≤ 9223372036854775807) : bkt x ≤ bkt y := by
  unfold bkt
  have := bitLen_mono y.toNat x.toNat (by omega) (by omega)
  split <;> split <;> (try split) <;> (try split) <;> omega
theorem hAt_histL (l : List Int) {b : Nat} (hb : b < 65) : hAt (histL l) b = (l.countP (fun v => bkt v == b) : Nat) := histL_get l b hb
theorem hAt_bump {h : List Int} (hl : h.length = 65) {k : Nat} (hk : k < 65) (b : Nat) : hAt (bump h k) b = if b = k then hAt h k + 1 else hAt h b := by
  unfold hAt bump
  rw [List.getElem?_set]
  by_cases e : k = b
  · subst e
    rw [if_pos rfl, if_pos (by omega), if_pos rfl]; rfl
  · rw [if_neg e, if_neg (fun q => e q.symm)]
theorem sum_bump : ∀ (h : List Int) (k : Nat), k < h.length → (bump h k).sum = h.sum + 1
  | [], k, hk => absurd hk (by simp)
  | x :: h, 0, _ => by simp [bump]; omega
  | x :: h, k + 1, hk => by
    have := sum_bump h k (by simpa using hk)
    unfold bump at *
    simp only [List.set_cons_succ, List.getElem?_cons_succ, List.sum_cons]
    omega
theorem okH_bump {h : List Int} {k : Nat} (ho : okH h = true) : okH (bump h k) = true := by
  unfold okH bump at *
  rw [List.all_eq_true] at *
  intro x hx
  rcases List.mem_or_eq_of_mem_set hx with q | q
  · exact ho x q
  · subst q
    have := okH_at (l := h) (by unfold okH; exact List.all_eq_true.2 ho) k
    exact decide_eq_true (by omega)
theorem okH_le_sum : ∀ {h : List Int}, okH h = true → ∀ x ∈ h, 0 ≤ x ∧ x ≤ h.sum
  | [], _, x, hx => absurd hx (by simp)
  | y :: h, ho, x, hx => by
    unfold okH at ho
    rw [List.all_cons, Bool.and_eq_true] at ho
    have hy := of_decide_eq_true ho.1
    have hs : 0 ≤ h.sum := by
      have : ∀ l : List Int, okH l = true → 0 ≤ l.sum := by
        intro l
        induction l with
        | nil => intro _; simp
        | cons z l ih =>
          intro q
          unfold okH at q
          rw [List.all_cons, Bool.and_eq_true] at q
          have := of_decide_eq_true q.1
          have := ih q.2
          rw [List.sum_cons]; omega
      exact this h ho.2
    rw [List.sum_cons]
    rcases List.mem_cons.1 hx with q | q
    · subst q; omega
    · have := okH_le_sum (h := h) ho.2 x q
      omega
theorem hAt_mem {h : List Int} (hl : h.length = 65) {b : Nat} (hb : b < 65) : hAt h b ∈ h := by
  unfold hAt
  rw [List.getElem?_eq_getElem (by omega)]
  exact List.getElem_mem _
theorem hAt_le {c : Cel} (h : RightC c) (hl : c.h.length = 65) {b : Nat} (hb : b < 65) : 0 ≤ hAt c.h b ∧ hAt c.h b ≤ c.n := by
  have := okH_le_sum h.ok _ (hAt_mem hl hb)
  rw [h.sum] at this
  exact this
theorem rightC_zC : rightC zC = true := by decide
/-! ### what is folded -/
theorem sum_in128 {l : List Int} (h : ∀ z ∈ l, in64 z) (hn : l.length ≤ 65536) : in128 l.sum := by
  have := sum_abs l h
  unfold in128 hiZ word in64
  omega
theorem foldC_ok {l : List Int} (h : ∀ z ∈ l, in64 z) (hn : l.length ≤ 65536) : CelOK (foldC l) where
  n := by show in64 (l.length : Int); unfold in64; omega
  s := sum_in128 h hn
  mn := (mm_in h).1
  mx := (mm_in h).2
  ce := by show in64 0; unfold in64; omega
  po := by show in64 0; unfold in64; omega
  hl := histL_len l
  hx := fun z hz => by have := histL_mem l z hz; unfold in64; omega
theorem foldC_right {l : List Int} (h : ∀ z ∈ l, in64 z) : RightC (foldC l) := by
  have hin : inL l := fun x hx => h x hx
  refine ⟨by show (0 : Int) ≤ (l.length : Int); omega, Int.le_refl _, Int.le_refl _, ?_, histL_ok l, histL_sum l hin, ?_, ?_, ?_, ?_⟩
  · show mmin l ≤ mmax l
    by_cases e : l = []
    · subst e; exact Int.le_refl _
    · exact (mmin_mem l e).2 _ (mmax_mem l e).1
  · intro q
    have q : (l.length : Int) = 0 := q
    have : l = [] := List.length_eq_zero_iff.1 (by omega)
    subst this
    exact ⟨rfl, rfl, rfl⟩
  · intro q
    have e : l ≠ [] := fun e => q (by subst e; rfl)
    have hm := (mmin_mem l e).1
    show hAt (histL l) (bkt (mmin l)) ≠ 0
    rw [hAt_histL l (bkt_lt _ (h _ hm).2)]
    have : 0 < l.countP (fun v => bkt v == bkt (mmin l)) := List.countP_pos_iff.2 ⟨_, hm, by simp⟩
    omega
  · intro q
    have e : l ≠ [] := fun e => q (by subst e; rfl)
    have hm := (mmax_mem l e).1
    show hAt (histL l) (bkt (mmax l)) ≠ 0
    rw [hAt_histL l (bkt_lt _ (h _ hm).2)]
    have : 0 < l.countP (fun v => bkt v == bkt (mmax l)) := List.countP_pos_iff.2 ⟨_, hm, by simp⟩
    omega
  · intro q b hb hne
    have e : l ≠ [] := fun e => q (by subst e; rfl)
    have hne : hAt (histL l) b ≠ 0 := hne
    rw [hAt_histL l hb] at hne
    have : 0 < l.countP (fun v => bkt v == b) := by omega
    obtain ⟨v, hv, hvb⟩ := List.countP_pos_iff.1 this
    have hvb : bkt v = b := by simpa using hvb
    subst hvb
    exact ⟨bkt_mono ((mmin_mem l e).2 v hv) (h v hv).2, bkt_mono ((mmax_mem l e).2 v hv) (h _ (mmax_mem l e).1).2⟩
/-! ### one more value -/
theorem addC_ok {c : Cel} {v : Int} (hc : CelOK c) (hr : RightC c) (hv : in64 v) (hn : c.n ≠ big) (hs : in128 (c.s + v)) : CelOK (addC c v).1 := by
  unfold addC
  rw [if_neg (by rw [right_iff.2 hr]; simp), if_neg hn, if_neg (by simpa using hs)]
  have h1 := hc.n
  have h2 := hr.n
  unfold big at hn
  refine ⟨?_, hs, ?_, ?_, hc.ce, hc.po, by show (bump c.h (bkt v)).length = 65; rw [bump_len]; exact hc.hl, ?_⟩
  · show in64 (c.n + 1); unfold in64 at *; omega
  · show in64 (if c.n = 0 then v else min c.mn v)
    have := hc.mn
    unfold in64 at *
    split <;> omega
  · show in64 (if c.n = 0 then v else max c.mx v)
    have := hc.mx
    unfold in64 at *
    split <;> omega
  · intro z hz
    have hz : z ∈ bump c.h (bkt v) := hz
    have := okH_le_sum (okH_bump (k := bkt v) hr.ok) z hz
    rw [sum_bump _ _ (by rw [hc.hl]; exact bkt_lt v hv.2), hr.sum] at this
    unfold in64 at *
    omega
theorem addC_right {c : Cel} {v : Int} (hc : CelOK c) (hr : RightC c) (hv : in64 v) (hn : c.n ≠ big) (hs : in128 (c.s + v)) : RightC (addC c v).1 := by
  unfold addC
  rw [if_neg (by rw [right_iff.2 hr]; simp), if_neg hn, if_neg (by simpa using hs)]
  have h2 := hr.n
  have hb := bkt_lt v hv.2
  have hA := hAt_bump hc.hl hb
  have hx := fun b (q : b < 65) => hAt_le hr hc.hl q
  refine ⟨by show 0 ≤ c.n + 1; omega, hr.ce, hr.po, ?_, okH_bump hr.ok, ?_, ?_, ?_, ?_, ?_⟩
  · show (if c.n = 0 then v else min c.mn v) ≤ (if c.n = 0 then v else max c.mx v)
    have := hr.mm
    split <;> omega
  · show (bump c.h (bkt v)).sum = c.n + 1
    rw [sum_bump _ _ (by rw [hc.hl]; exact hb), hr.sum]
  · intro q
    have q : c.n + 1 = 0 := q
    omega
  · intro _
    show hAt (bump c.h (bkt v)) (bkt (if c.n = 0 then v else min c.mn v)) ≠ 0
    rw [hA]
    have := hx _ hb
    by_cases e : c.n = 0
    · rw [if_pos e, if_pos rfl]; omega
    · rw [if_neg e]
      by_cases q : bkt (min c.mn v) = bkt v
      · rw [if_pos q]; omega
      · rw [if_neg q]
        rcases Int.le_total c.mn v with r | r
        · rw [Int.min_eq_left r]; exact hr.low e
        · rw [Int.min_eq_right r] at q; exact absurd rfl q
  · intro _
    show hAt (bump c.h (bkt v)) (bkt (if c.n = 0 then v else max c.mx v)) ≠ 0
    rw [hA]
    have := hx _ hb
    by_cases e : c.n = 0
    · rw [if_pos e, if_pos rfl]; omega
    · rw [if_neg e]
      by_cases q : bkt (max c.mx v) = bkt v
      · rw [if_pos q]; omega
      · rw [if_neg q]
        rcases Int.le_total c.mx v with r | r
        · rw [Int.max_eq_right r] at q; exact absurd rfl q
        · rw [Int.max_eq_left r]; exact hr.high e
  · intro _ b hb2 hne
    have hne : hAt (bump c.h (bkt v)) b ≠ 0 := hne
    show bkt (if c.n = 0 then v else min c.mn v) ≤ b ∧ b ≤ bkt (if c.n = 0 then v else max c.mx v)
    rw [hA] at hne
    by_cases e : c.n = 0
    · rw [if_pos e, if_pos e]
      by_cases q : b = bkt v
      · omega
      · rw [if_neg q] at hne
        have := hx b hb2
        omega
    · rw [if_neg e, if_neg e]
      have m1 := bkt_mono (x := min c.mn v) (y := c.mn) (by omega) hc.mn.2
      have m2 := bkt_mono (x := min c.mn v) (y := v) (by omega) hv.2
      have m3 := bkt_mono (x := c.mx) (y := max c.mx v) (by omega) (by have := hc.mx.2; have := hv.2; omega)
      have m4 := bkt_mono (x := v) (y := max c.mx v) (by omega) (by have := hc.mx.2; have := hv.2; omega)
      by_cases q : b = bkt v
      · omega
      · rw [if_neg q] at hne
        have := hr.all e b hb2 hne
        omega
theorem addC_fine {c : Cel} {v : Int} (hr : RightC c) (hn : c.n ≠ big) (hs : in128 (c.s + v)) : addC c v = (⟨c.n + 1, c.s + v, if c.n = 0 then v else min c.mn v, if c.n = 0 then v else max c.mx v, c.ce, c.po, bump c.h (bkt v)⟩, 0) := by
  unfold addC
  rw [if_neg (by rw [right_iff.2 hr]; simp), if_neg hn, if_neg (by simpa using hs)]
theorem hist_fine {c : Cel} {v : Int} (hc : CelOK c) (hr : RightC c) (hv : in64 v) (hn : c.n ≠ big) : addE c.h v = 0 ∧ addL c.h v = bump c.h (bkt v) := by
  have h : addE c.h v = 0 := by
    unfold addE
    rw [if_neg (by rw [hr.ok]; simp), if_neg]
    intro q
    have hb := bkt_lt v hv.2
    have := (hAt_le hr hc.hl hb).2
    unfold hAt at this
    rw [q] at this
    have h2 := hc.n.2
    unfold big at hn
    exact hn (by simp at this; omega)
  exact ⟨h, by unfold addL; rw [if_pos h]⟩
theorem foldC_snoc {l : List Int} {v : Int} (h : ∀ z ∈ l ++ [v], in64 z) (hn : l.length ≤ 60000) : addC (foldC l) v = (foldC (l ++ [v]), 0) := by
  have hl : ∀ z ∈ l, in64 z := fun z hz => h z (by simp [hz])
  have e1 : (l ++ [v]).sum = l.sum + v := by simp
  rw [addC_fine (foldC_right hl) (by show (l.length : Int) ≠ big; unfold big; omega) (by show in128 (l.sum + v); rw [← e1]; exact sum_in128 h (by simp; omega))]
  refine congrArg (·, (0 : Int)) (Cel.ext' ?_ ?_ ?_ ?_ rfl rfl ?_)
  · show (l.length : Int) + 1 = ((l ++ [v]).length : Int); simp
  · exact e1.symm
  · show (if (l.length : Int) = 0 then v else min (mmin l) v) = mmin (l ++ [v])
    rw [mmin_snoc]
    by_cases e : l = []
    · subst e; rfl
    · have : ¬ (l.length : Int) = 0 := fun q => e (List.length_eq_zero_iff.1 (by omega))
      rw [if_neg this, if_neg e]
  · show (if (l.length : Int) = 0 then v else max (mmax l) v) = mmax (l ++ [v])
    rw [mmax_snoc]
    by_cases e : l = []
    · subst e; rfl
    · have : ¬ (l.length : Int) = 0 := fun q => e (List.length_eq_zero_iff.1 (by omega))
      rw [if_neg this, if_neg e]
  · exact (histL_snoc l v).symm
/-! ### notes -/
theorem noteC_fine {c : Cel} {b : Bool} (hr : RightC c) (hn : (if b then c.ce else c.po) ≠ big) : noteC c b = (⟨c.n, c.s, c.mn, c.mx, if b then c.ce + 1 else c.ce, if b then c.po else c.po + 1, c.h⟩, 0) := by
  unfold noteC
  rw [if_neg (by rw [right_iff.2 hr]; simp), if_neg hn]
theorem noteC_right {c : Cel} {b : Bool} (hr : RightC c) (hn : (if b then c.ce else c.po) ≠ big) : RightC (noteC c b).1 := by
  rw [noteC_fine hr hn]
  have h1 := hr.ce
  have h2 := hr.po
  refine ⟨hr.n, ?_, ?_, hr.mm, hr.ok, hr.sum, hr.zero, hr.low, hr.high, hr.all⟩
  · show 0 ≤ if b then c.ce + 1 else c.ce
    split <;> omega
  · show 0 ≤ if b then c.po else c.po + 1
    split <;> omega
theorem noteC_ok {c : Cel} {b : Bool} (hc : CelOK c) (hr : RightC c) (hn : (if b then c.ce else c.po) ≠ big) : CelOK (noteC c b).1 := by
  rw [noteC_fine hr hn]
  have h1 := hr.ce
  have h2 := hr.po
  have h3 := hc.ce
  have h4 := hc.po
  refine ⟨hc.n, hc.s, hc.mn, hc.mx, ?_, ?_, hc.hl, hc.hx⟩
  · show in64 (if b then c.ce + 1 else c.ce)
    unfold in64 big at *
    cases b <;> simp at * <;> omega
  · show in64 (if b then c.po else c.po + 1)
    unfold in64 big at *
    cases b <;> simp at * <;> omega
end Go.Proofs.Ytbjmdnemeidpjaa
/- Full: the maker of the iterator, and the iterator's contract. -/
namespace Go.Proofs.Ytbjmdnemeidpjaa
open Go.RowKit
set_option linter.unusedVariables false
set_option linter.unusedSimpArgs false
attribute [local go_sem] Oper.semAt_some
end Go.Proofs.Ytbjmdnemeidpjaa
/- Gaps: Right, Has. -/
namespace Go.Proofs.Ytbjmdnemeidpjaa
open Go.RowKit
set_option linter.unusedVariables false
set_option linter.unusedSimpArgs false
end Go.Proofs.Ytbjmdnemeidpjaa
/- gap.New, Bounds. -/
namespace Go.Proofs.Ytbjmdnemeidpjaa
open Go.RowKit
set_option linter.unusedVariables false
set_option linter.unusedSimpArgs false
end Go.Proofs.Ytbjmdnemeidpjaa
/- What the statements share: CopyBytes, SameBytes; and bytes.Clone. -/
namespace Go.Proofs.Ytbjmdnemeidpjaa
open Go.RowKit
set_option linter.unusedVariables false
set_option linter.unusedSimpArgs false

end Go.Proofs.Ytbjmdnemeidpjaa
/- Numbers as bytes, and back: plain arithmetic. -/
namespace Go.Proofs.Ytbjmdnemeidpjaa
set_option linter.unusedSimpArgs false
set_option linter.unusedVariables false

def encF : Nat → Nat → List UInt8
  | 0, u => [UInt8.ofNat u]
  | f + 1, u => if u < 128 then [UInt8.ofNat u] else UInt8.ofNat (128 + u % 128) :: encF f (u / 128)
/-- The bytes of a number. -/
def enc (u : Nat) : List UInt8 := encF 9 u
/-! ### reading -/
/-- From place i on, so much read: the number, its size, the fault (10: not in form, 15: at its end). -/
def decF (i acc : Nat) : List UInt8 → Nat × Nat × Nat
  | [] => (0, 0, 15)
  | c :: r => if (c.toNat = 0 ∧ 0 < i) ∨ (1 < c.toNat ∧ i = 9) then (0, 0, 10) else if c.toNat < 128 then (acc + c.toNat * 128 ^ i, i + 1, 0) else decF (i + 1) (acc + c.toNat % 128 * 128 ^ i) r
def dec (l : List UInt8) : Nat × Nat × Nat := decF 0 0 l

end Go.Proofs.Ytbjmdnemeidpjaa
/- code.put, code.first, code.count. -/
namespace Go.Proofs.Ytbjmdnemeidpjaa
open Go.RowKit
set_option linter.unusedVariables false
set_option linter.unusedSimpArgs false

end Go.Proofs.Ytbjmdnemeidpjaa
/- code.first, code.count. -/
namespace Go.Proofs.Ytbjmdnemeidpjaa
open Go.RowKit
set_option linter.unusedVariables false
set_option linter.unusedSimpArgs false

end Go.Proofs.Ytbjmdnemeidpjaa
/- code.count, and the Reader's methods. -/
namespace Go.Proofs.Ytbjmdnemeidpjaa
open Go.RowKit
set_option linter.unusedVariables false
set_option linter.unusedSimpArgs false

/-! ### the Reader -/
/-- The reader at block g has the bytes l still to come, and the fault e. -/
def Rdr (w : World) (g : Nat) (l : List UInt8) (e : Nat) : Prop :=
  ∃ A n c, Blk w g 167 #[.slice A n c, .int .i64 (e : Int)] ∧ RdB w g A n l ∧ n ≤ c ∧ c ≤ maxLen ∧ n ≤ 140737488351232
def tkL (l : List UInt8) (e size er : Nat) : List UInt8 := if e = 0 ∧ er = 0 then l.drop size else l
def tkE (e er : Nat) : Nat := if e = 0 then er else e
theorem Rdr.next {w w' : World} {g e : Nat} {l : List UInt8} (h : Rdr w g l e) (hb : Below w.heap.size w w') : Rdr w' g l e := by
  obtain ⟨A, n, c, hk, hr, h1, h2, h3⟩ := h
  exact ⟨A, n, c, hk.next hb, hr.below (hb.mono (Nat.le_of_lt hk.lt)), h1, h2, h3⟩
theorem Rdr.lt {w : World} {g e : Nat} {l : List UInt8} (h : Rdr w g l e) : g < w.heap.size := by
  obtain ⟨A, n, c, hk, _⟩ := h
  exact hk.lt

/-! ### Uint, Count, Left, Err, End -/
def uV (l : List UInt8) (e : Nat) : Nat := if e = 0 ∧ (dec l).2.2 = 0 then (dec l).1 else 0
end Go.Proofs.Ytbjmdnemeidpjaa
/- code.Turn, code.Unturn. -/
namespace Go.Proofs.Ytbjmdnemeidpjaa
open Go.RowKit
set_option linter.unusedVariables false
set_option linter.unusedSimpArgs false

def unturnZ (u : Nat) : Int := if u % 2 = 0 then (u : Int) / 2 else -((u : Int) / 2) - 1
/-! ### Int, Count, Left, Err, End -/
end Go.Proofs.Ytbjmdnemeidpjaa
/- append of a string's bytes onto an owned slice; a slice of strings that is read; bytes as a string. No program is named here. -/
namespace Go.Proofs.Ytbjmdnemeidpjaa
set_option linter.unusedSimpArgs false
set_option linter.unusedVariables false
open Go.RowKit

section
variable {P : Program} (w : World)
end
end Go.Proofs.Ytbjmdnemeidpjaa
/- code.Uints, code.Ints, code.Texts, code.New, (*Reader).Text. -/
namespace Go.Proofs.Ytbjmdnemeidpjaa
open Go.RowKit
set_option linter.unusedVariables false
set_option linter.unusedSimpArgs false

/-- The bytes of a text. -/
def encT (s : ByteArray) : List UInt8 := enc s.size ++ s.data.toList
def encTs (l : List ByteArray) : List UInt8 := (l.map encT).flatten
/-! ### New, Text -/
end Go.Proofs.Ytbjmdnemeidpjaa
/- alive answers true. -/
namespace Go.Proofs.Ytbjmdnemeidpjaa
open Go.RowKit
set_option linter.unusedVariables false
set_option linter.unusedSimpArgs false

def k0 : List UInt8 := [172, 2, 5, 1, 97, 9]
def k1 : List UInt8 := [5, 1, 97, 9]
def k2 : List UInt8 := [1, 97, 9]
theorem f0 : uV k0 0 = 300 ∧ tkL k0 0 (dec k0).2.1 (dec k0).2.2 = k1 ∧ tkE 0 (dec k0).2.2 = 0 := by decide +kernel
theorem f1 : unturnZ (uV k1 0) = -3 ∧ tkL k1 0 (dec k1).2.1 (dec k1).2.2 = k2 ∧ tkE 0 (dec k1).2.2 = 0 := by decide +kernel
def tab : ByteArray := ⟨#[97, 98]⟩
def tnil : ByteArray := ⟨#[]⟩
theorem f7 : encTs [tab, tnil] = [2, 97, 98, 0] := by decide +kernel
end Go.Proofs.Ytbjmdnemeidpjaa
/- alive of layer 5. -/
namespace Go.Proofs.Ytbjmdnemeidpjaa
open Go.RowKit
attribute [local go_sem] Oper.semAt_some
set_option linter.unusedVariables false
set_option linter.unusedSimpArgs false
def hA : List Int := histL [0, 1, 1, 5]
def hM : List Int := mergeR [hA, hA]
def hN : List Int := addL hA (-9)
end Go.Proofs.Ytbjmdnemeidpjaa
/- The document's Rank, and Total, Rank and Full of the program. -/
namespace Go.Proofs.Ytbjmdnemeidpjaa
set_option linter.unusedSimpArgs false
set_option linter.unusedVariables false
open Go.RowKit
set_option maxRecDepth 100000
end Go.Proofs.Ytbjmdnemeidpjaa
