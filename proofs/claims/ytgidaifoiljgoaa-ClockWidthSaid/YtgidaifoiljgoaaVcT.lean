/- The arguments of a law, as data; from a law's contract to its statement. No program is named here. -/
import Derived.Test.YtgidaifoiljgoaaVcQ
import Derived.Test.YtgidaifoiljgoaaFrame
namespace Go.Proofs.Ytgidaifoiljgoaa
set_option linter.unusedSimpArgs false
set_option linter.unusedVariables false
open Go.ChangeShapes Go.WideShapes Go.ChangeAt Go.RowKit
def tileB (P : Program) : List Field → Nat → Nat → Bool
  | [], o, tot => Nat.beq o tot
  | f :: r, o, tot => Nat.beq f.offset o && tileB P r (o + P.cellsOf f.type) tot
/-- Types of plain data. -/
def supB (P : Program) : Nat → TypeId → Bool
  | 0, _ => false
  | m + 1, t => match P.underlying t with
    | some .bool => true
    | some (.int _) => true
    | some .string => true
    | some (.slice e) => supB P m e && Nat.blt 0 (P.cellsOf e)
    | some (.struct fs) => tileB P fs.toList 0 (P.cellsOf t) && fs.toList.all fun f => supB P m f.type
    | some (.array n e) => supB P m e && Nat.beq (n * P.cellsOf e) (P.cellsOf t)
    | _ => false
def TyAll (p : TypeId → List D → Prop) : List TypeId → List (List D) → Prop
  | [], dss => dss = []
  | t :: ts, dss => ∃ d r, dss = d :: r ∧ p t d ∧ TyAll p ts r
/-- What cells of a type of plain data look like. -/
def TyB (p : TypeId → List D → Prop) (P : Program) (t : TypeId) (ds : List D) : Prop :=
  match P.underlying t with
    | some .bool => ∃ b, ds = [.v (.bool b)]
    | some (.int k) => ∃ z, ds = [.v (.int k z)] ∧ (Lit.int k z).wf = true
    | some .string => ∃ s, ds = [.v (.string s)] ∧ s.size ≤ reachBytes
    | some (.slice e) => ∃ rows, ds = [.sl (P.cellsOf e) rows] ∧ (∀ r ∈ rows, p e r) ∧ rows.length * P.bytesOf e ≤ reachBytes
    | some (.struct fs) => ∃ dss, ds = dss.flatten ∧ TyAll p (fs.toList.map (·.type)) dss
    | some (.array n e) => ∃ dss : List (List D), ds = dss.flatten ∧ dss.length = n ∧ ∀ d ∈ dss, p e d
    | _ => False
def Ty (P : Program) : Nat → TypeId → List D → Prop
  | 0 => fun _ _ => False
  | m + 1 => TyB (Ty P m) P
theorem Ty.of {P : Program} {m : Nat} {t : TypeId} {ds : List D} {d : TypeDesc} (hu : P.underlying t = some d) (h : P.underlying t = some d → TyB (Ty P m) P t ds) : Ty P (m + 1) t ds := h hu
section
variable {H : Type} {enc : TypeId × Value → H} {P : Program} {w : World} {base : Nat}
theorem mapM_get {α β : Type} {f : α → Option β} : ∀ {l : List α} {ys : List β}, l.mapM f = some ys → ys.length = l.length ∧ ∀ (i : Nat) (x : α), l[i]? = some x → ∃ y, ys[i]? = some y ∧ f x = some y
  | [], ys, h => by simp at h; subst h; exact ⟨rfl, fun i x h => by simp at h⟩
  | a :: l, ys, h => by
    simp only [List.mapM_cons, Option.bind_eq_bind, Option.pure_def, Option.bind_eq_some_iff, Option.some.injEq] at h
    obtain ⟨y, h1, zs, h2, rfl⟩ := h
    obtain ⟨h3, h4⟩ := mapM_get h2
    refine ⟨by simp [h3], fun i x hx => ?_⟩
    cases i with
    | zero => simp at hx; subst hx; exact ⟨y, rfl, h1⟩
    | succ i => simpa using h4 i x (by simpa using hx)
def Fall (w : World) (b : Nat) : Prop := b < w.heap.size
theorem weightsAll_mem {e : TypeId} : ∀ {ds : List (DataW H)} {d : DataW H}, d ∈ ds → ∀ x ∈ d.weights P e, x ∈ DataW.weightsAll P e ds
  | [], _, h, _, _ => by simp at h
  | a :: r, d, h, x, hx => by
    rw [DataW.weightsAll]
    rcases List.mem_cons.1 h with e | e
    · subst e; exact List.mem_append_left _ hx
    · exact List.mem_append_right _ (weightsAll_mem e x hx)
theorem weightsEach_mem : ∀ {ts : List TypeId} {ds : List (DataW H)} {i : Nat} {t : TypeId} {d : DataW H}, ts[i]? = some t → ds[i]? = some d → ∀ x ∈ d.weights P t, x ∈ DataW.weightsEach P ts ds
  | [], _, _, _, _, h, _, _, _ => by simp at h
  | _ :: _, [], _, _, _, _, h, _, _ => by simp at h
  | t0 :: ts, d0 :: ds, 0, t, d, h1, h2, x, hx => by
    simp at h1 h2; subst h1 h2
    rw [DataW.weightsEach]; exact List.mem_append_left _ hx
  | t0 :: ts, d0 :: ds, i + 1, t, d, h1, h2, x, hx => by
    rw [DataW.weightsEach]; exact List.mem_append_right _ (weightsEach_mem (by simpa using h1) (by simpa using h2) x hx)
theorem tile_out {p : TypeId → List D → Prop} {F : Nat → Prop} : ∀ {fs : List Field} {o : Nat} {cs : List Value}, tileB P fs o cs.length = true →
    (∀ f ∈ fs, ∃ ds, RDs w F ds ((cs.drop f.offset).take (P.cellsOf f.type)) ∧ p f.type ds) → ∃ dss, RDs w F dss.flatten (cs.drop o) ∧ TyAll p (fs.map (·.type)) dss
  | [], o, cs, h, _ => by
    have := Nat.eq_of_beq_eq_true h
    subst this
    exact ⟨[], by simpa using RDs.nil, rfl⟩
  | f :: r, o, cs, h, hf => by
    simp only [tileB, Bool.and_eq_true] at h
    have := Nat.eq_of_beq_eq_true h.1
    subst this
    obtain ⟨ds, h1, h2⟩ := hf f (List.mem_cons_self ..)
    obtain ⟨dss, h3, h4⟩ := tile_out h.2 fun g hg => hf g (List.mem_cons_of_mem _ hg)
    refine ⟨ds :: dss, ?_, ds, dss, rfl, h2, h4⟩
    rw [List.flatten_cons]
    have := h1.app h3
    rw [← List.drop_drop, List.take_append_drop] at this
    exact this
theorem tile_arr {p : List D → Prop} {F : Nat → Prop} {s : Nat} : ∀ {n : Nat} {cs : List Value}, cs.length = n * s → (∀ i, i < n → ∃ ds, RDs w F ds ((cs.drop (i * s)).take s) ∧ p ds) → ∃ dss : List (List D), RDs w F dss.flatten cs ∧ dss.length = n ∧ ∀ d ∈ dss, p d
  | 0, cs, hl, _ => by
    have : cs = [] := List.eq_nil_of_length_eq_zero (by simpa using hl)
    subst this
    exact ⟨[], .nil, rfl, by simp⟩
  | n + 1, cs, hl, h => by
    obtain ⟨ds, h1, h2⟩ := h 0 (by omega)
    have hl' : (cs.drop s).length = n * s := by rw [List.length_drop, hl, Nat.add_mul]; omega
    obtain ⟨dss, h3, h4, h5⟩ := tile_arr hl' fun i hi => by
      obtain ⟨ds, h1, h2⟩ := h (i + 1) (by omega)
      exact ⟨ds, by rw [List.drop_drop, show s + i * s = (i + 1) * s by rw [Nat.add_mul]; omega]; exact h1, h2⟩
    refine ⟨ds :: dss, ?_, by simp [h4], fun d hd => (List.mem_cons.1 hd).elim (fun e => e ▸ h2) (h5 d)⟩
    rw [List.flatten_cons]
    have := h1.app h3
    simp only [Nat.zero_mul, List.drop_zero] at this
    rw [List.take_append_drop] at this
    exact this
theorem cells?_get {a : Addr} {n : Nat} {cs : List Value} (h : w.cells? 0 a n = some cs) : cs.length = n ∧ ∀ j (hj : j < cs.length), w.cell? (a.add j) = some cs[j] := by
  unfold World.cells? at h
  simp only [Nat.zero_le, if_true] at h
  obtain ⟨h1, h2⟩ := mapM_get h
  simp at h1
  refine ⟨h1, fun j hj => ?_⟩
  obtain ⟨y, h3, h4⟩ := h2 j j (by rw [List.getElem?_range (by omega)])
  rw [List.getElem?_eq_getElem hj] at h3
  injection h3 with h3
  rw [h3]; exact h4
/-- **Cells that read as plain data.** -/
theorem trod_ty : ∀ (m : Nat) (t : TypeId) (fuel : Nat) (cs : List Value) (d : DataW H) (ps : List MemPlace), supB P m t = true → DataW.trod enc P w 0 (fun _ => true) true fuel t cs = some (d, ps) → (∀ x ∈ d.weights P t, x ≤ reachBytes) →
    ∃ ds, RDs w (Fall w) ds cs ∧ Ty P m t ds
  | 0, t, _, _, _, _, hs, _, _ => by simp [supB] at hs
  | m + 1, t, 0, _, _, _, _, h, _ => by simp [DataW.trod] at h
  | m + 1, t, fuel + 1, cs, d, ps, hs, h, hw => by
    rw [supB] at hs
    cases hu : P.underlying t with
    | none => rw [hu] at hs; cases hs
    | some dsc =>
      rw [hu] at hs
      cases dsc <;> try (simp at hs; done)
      case bool =>
        unfold DataW.trod at h
        simp only [hu] at h
        split at h <;> try (simp at *; done)
        rename_i b _
        exact ⟨[.v (.bool b)], .cons (.v _) rfl .nil, by show TyB _ P t _; unfold TyB; rw [hu]; exact ⟨b, rfl⟩⟩
      case int k =>
        unfold DataW.trod at h
        simp only [hu] at h
        split at h <;> try (simp at *; done)
        rename_i k' k'' n e
        injection e with e; injection e with e; subst e
        split at h
        · rename_i hc
          obtain ⟨rfl, hwf⟩ := hc
          exact ⟨[.v (.int _ n)], .cons (.v _) rfl .nil, by show TyB _ P t _; unfold TyB; rw [hu]; exact ⟨n, rfl, hwf⟩⟩
        · cases h
      case string =>
        unfold DataW.trod at h
        simp only [hu] at h
        split at h <;> try (simp at *; done)
        rename_i s _
        split at h
        · injection h with h; injection h with h1 h2; subst h1
          refine ⟨[.v (.string s)], .cons (.v _) rfl .nil, by show TyB _ P t _; unfold TyB; rw [hu]; exact ⟨s, rfl, hw s.size (by simp [DataW.weights])⟩⟩
        · cases h
      case slice e =>
        simp only [Bool.and_eq_true, Nat.blt_eq] at hs
        unfold DataW.trod at h
        simp only [hu] at h
        split at h <;> try (simp at *; done)
        · exact ⟨[.sl (P.cellsOf e) []], .cons (.sl rfl (by simp) (Nat.le_refl _) (by simp [maxLen]) .nil (fun h => absurd h (by simp))) rfl .nil, by show TyB _ P t _; unfold TyB; rw [hu]; exact ⟨[], rfl, by simp, by simp⟩⟩
        · rename_i e' a len cap he
          injection he with he; injection he with he; subst he
          split at h
          · rename_i hc
            simp only [Option.bind_eq_some_iff, Option.map_eq_some_iff, if_true] at h
            obtain ⟨elems, h1, rest, h2, h3⟩ := h
            injection h3 with h3 h4
            subst h3
            obtain ⟨g1, g2⟩ := mapM_get h1
            simp at g1
            have hel : ∀ i, i < len → ∃ r, RDs w (Fall w) r (((List.range (P.cellsOf e)).map fun j => (w.cell? (a.add (i * P.cellsOf e + j))).getD undef)) ∧ Ty P m e r ∧ r.length = P.cellsOf e ∧ ∀ j, j < P.cellsOf e → (w.cell? (a.add (i * P.cellsOf e + j))).isSome = true := by
              intro i hi
              obtain ⟨y, q1, q2⟩ := g2 i i (by rw [List.getElem?_range hi])
              simp only [Option.bind_eq_some_iff] at q2
              obtain ⟨cs', q3, q4⟩ := q2
              obtain ⟨q5, q6⟩ := cells?_get q3
              have hcell : ∀ j (hj : j < cs'.length), w.cell? (a.add (i * P.cellsOf e + j)) = some cs'[j] := fun j hj => by
                rw [← q6 j hj]
                congr 1
                obtain ⟨b, off, sp⟩ := a
                unfold Addr.add
                split <;> split <;> split <;> simp_all <;> omega
              obtain ⟨r, q7, q8⟩ := trod_ty m e fuel cs' y.1 y.2 hs.1 q4 (fun x hx => hw x (by
                simp only [DataW.weights, hu]
                exact List.mem_cons_of_mem _ (List.mem_append_left _ (weightsAll_mem (List.mem_map.2 ⟨y, List.mem_of_getElem? q1, rfl⟩) x hx))))
              have hcs : ((List.range (P.cellsOf e)).map fun j => (w.cell? (a.add (i * P.cellsOf e + j))).getD undef) = cs' := by
                apply List.ext_getElem (by simp [q5])
                intro j h1 h2
                simp [hcell j h2]
              exact ⟨r, by rw [hcs]; exact q7, q8, by rw [← q5]; exact q7.length.symm, fun j hj => by rw [hcell j (by omega)]; rfl⟩
            have hcsl : ((List.range (len * P.cellsOf e)).map fun j => (w.cell? (a.add j)).getD undef).length = len * P.cellsOf e := by simp
            obtain ⟨dss, q1, q2, q3⟩ := tile_arr (w := w) (F := Fall w) (p := fun d => Ty P m e d ∧ d.length = P.cellsOf e) hcsl fun i hi => by
              obtain ⟨r, q1, q2, q3, q4⟩ := hel i hi
              refine ⟨r, ?_, q2, q3⟩
              have hmul : i * P.cellsOf e + P.cellsOf e ≤ len * P.cellsOf e := by rw [← Nat.succ_mul]; exact Nat.mul_le_mul_right _ hi
              have : (((List.range (len * P.cellsOf e)).map fun j => (w.cell? (a.add j)).getD undef).drop (i * P.cellsOf e)).take (P.cellsOf e) = ((List.range (P.cellsOf e)).map fun j => (w.cell? (a.add (i * P.cellsOf e + j))).getD undef) := by
                apply List.ext_getElem (by simp; omega)
                intro j h1 h2
                simp
              rw [this]; exact q1
            have hall : ∀ j, j < len * P.cellsOf e → (w.cell? (a.add j)).isSome = true := fun j hj => by
              have hd := Nat.div_add_mod j (P.cellsOf e)
              have hi : j / P.cellsOf e < len := (Nat.div_lt_iff_lt_mul hs.2).2 hj
              obtain ⟨_, _, _, _, q4⟩ := hel _ hi
              have := q4 (j % P.cellsOf e) (Nat.mod_lt _ hs.2)
              rwa [show j / P.cellsOf e * P.cellsOf e + j % P.cellsOf e = j by rw [Nat.mul_comm]; omega] at this
            have hbound : dss.length * P.bytesOf e ≤ reachBytes := by
              rw [q2]
              have := hw ((elems.map (·.1)).length * P.bytesOf e + (rest.map (·.1)).length * P.bytesOf e) (by simp [DataW.weights, hu, Nat.add_mul])
              simp only [List.length_map, g1] at this
              omega
            refine ⟨[.sl (P.cellsOf e) dss], .cons (.sl q2 (fun r hr => (q3 r hr).2) hc.2.1 hc.2.2 q1 fun hp => ?_) rfl .nil, by show TyB _ P t _; unfold TyB; rw [hu]; refine ⟨dss, rfl, fun r hr => (q3 r hr).1, ?_⟩; exact hbound⟩
            · obtain ⟨b, off, sp⟩ := a
              have h0 := hall 0 (Nat.mul_pos hp hs.2)
              obtain ⟨u, hu0⟩ := Option.isSome_iff_exists.1 h0
              have hsp : sp = none := by simpa [Addr.add] using World.cell?_spot hu0
              subst hsp
              refine ⟨b, off, rfl, ?_, fun j hj => ?_⟩
              · rw [Addr.add_lit] at hu0
                exact World.block_lt_of_cell? w _ hu0
              · rw [hcsl] at hj
                have := hall j hj
                rw [Addr.add_lit] at this
                obtain ⟨u, hu⟩ := Option.isSome_iff_exists.1 this
                simp [Addr.add_lit, hu]
          · cases h
      case struct fs =>
        simp only [Bool.and_eq_true, List.all_eq_true] at hs
        unfold DataW.trod at h
        simp only [hu] at h
        split at h
        · rename_i hlen
          simp only [Option.map_eq_some_iff] at h
          obtain ⟨xs, h1, h2⟩ := h
          injection h2 with h2 h3
          subst h2
          obtain ⟨g1, g2⟩ := mapM_get h1
          obtain ⟨dss, q1, q2⟩ := tile_out (w := w) (F := Fall w) (P := P) (p := Ty P m) (cs := cs) (by rw [hlen]; exact hs.1) fun f hf => by
            obtain ⟨i, hi, rfl⟩ := List.getElem_of_mem hf
            obtain ⟨y, q1, q2⟩ := g2 i _ (List.getElem?_eq_getElem hi)
            exact trod_ty m _ fuel _ y.1 y.2 (hs.2 _ hf) q2 fun x hx => hw x (by
              simp only [DataW.weights, hu]
              exact weightsEach_mem (i := i) (t := fs.toList[i].type) (by rw [List.getElem?_map, List.getElem?_eq_getElem hi]; rfl) (by rw [List.getElem?_map, q1]; rfl) x hx)
          exact ⟨dss.flatten, by simpa using q1, by show TyB _ P t _; unfold TyB; rw [hu]; exact ⟨dss, rfl, q2⟩⟩
        · cases h
      case array n e =>
        simp only [Bool.and_eq_true] at hs
        unfold DataW.trod at h
        simp only [hu] at h
        split at h
        · rename_i hlen
          simp only [Option.map_eq_some_iff] at h
          obtain ⟨xs, h1, h2⟩ := h
          injection h2 with h2 h3
          subst h2
          obtain ⟨g1, g2⟩ := mapM_get h1
          obtain ⟨dss, q1, q2, q3⟩ := tile_arr (w := w) (F := Fall w) (p := Ty P m e) (n := n) (s := P.cellsOf e) (cs := cs) (by rw [hlen]; exact (Nat.eq_of_beq_eq_true hs.2).symm) fun i hi => by
            obtain ⟨y, q1, q2⟩ := g2 i i (by rw [List.getElem?_range hi])
            exact trod_ty m _ fuel _ y.1 y.2 hs.1 q2 fun x hx => hw x (by
              simp only [DataW.weights, hu]
              exact weightsAll_mem (List.mem_map.2 ⟨y, List.mem_of_getElem? q1, rfl⟩) x hx)
          exact ⟨dss.flatten, q1, by show TyB _ P t _; unfold TyB; rw [hu]; exact ⟨dss, rfl, q2, q3⟩⟩
        · cases h
/-- A law's argument, as data. -/
theorem arg_ty {m : Nat} {t : TypeId} {v : Value} {d : DataW H} {ps : List MemPlace} (hs : supB P m t = true) (hok : Value.okWide P w .any base t v) (h : DataW.Trod enc P w 0 (fun _ => true) true t v d ps) (hw : ∀ x ∈ d.weights P t, x ≤ reachBytes) :
    ∃ ds, Ty P m t ds ∧ ((∃ x, ds = [x] ∧ RD w (Fall w) x v) ∨ RD w (Fall w) (.agg ds) v) := by
  obtain ⟨fuel, hf⟩ := h
  obtain ⟨ds, h1, h2⟩ := trod_ty m t fuel _ d ps hs hf hw
  refine ⟨ds, h2, ?_⟩
  cases m with
  | zero => simp [supB] at hs
  | succ m =>
    rw [supB] at hs
    have one : v.cells.toList = [v] → ∃ x, ds = [x] ∧ RD w (Fall w) x v := fun e => by
      rw [e] at h1
      cases h1 with | cons h1 _ hr => cases hr; exact ⟨_, rfl, h1⟩
    have agg : (∃ cs, v = .agg cs) → RD w (Fall w) (.agg ds) v := fun ⟨cs, e⟩ => by
      subst e
      simpa [Value.cells] using RD.agg h1
    cases hu : P.underlying t with
    | none => rw [hu] at hs; cases hs
    | some dsc =>
      rw [hu] at hs
      cases dsc <;> try (simp at hs; done)
      · obtain ⟨b, rfl⟩ := okWide_bool hu hok; exact .inl (one rfl)
      · obtain ⟨b, rfl⟩ := okWide_int hu hok; exact .inl (one rfl)
      · obtain ⟨b, rfl⟩ := okWide_string hu hok; exact .inl (one rfl)
      · obtain ⟨a, l, c, rfl⟩ := okWide_slice hu hok; exact .inl (one rfl)
      · unfold Value.okWide at hok
        rw [hu] at hok
        obtain ⟨cs, e, _⟩ := hok
        exact .inr (agg ⟨cs, e⟩)
      · unfold Value.okWide at hok
        rw [hu] at hok
        obtain ⟨cs, e, _⟩ := hok
        exact .inr (agg ⟨cs, e⟩)
/-- What an argument of a type looks like. -/
def TyV (P : Program) (t : TypeId) (x : D) : Prop :=
  match P.underlying t with
  | some (.struct _) => ∃ ds, x = .agg ds ∧ Ty P 9 t ds
  | some (.array _ _) => ∃ ds, x = .agg ds ∧ Ty P 9 t ds
  | _ => Ty P 9 t [x]
def ArgsTy (P : Program) : List TypeId → List AV → Prop
  | [], as => as = []
  | t :: ts, as => ∃ x r, as = .d x :: r ∧ TyV P t x ∧ ArgsTy P ts r
theorem arg_tyV {t : TypeId} {v : Value} {d : DataW H} {ps : List MemPlace} (hs : supB P 9 t = true) (hok : Value.okWide P w .any base t v) (h : DataW.Trod enc P w 0 (fun _ => true) true t v d ps) (hw : ∀ x ∈ d.weights P t, x ≤ reachBytes) :
    ∃ x, TyV P t x ∧ RD w (Fall w) x v := by
  obtain ⟨fuel, hf⟩ := h
  obtain ⟨ds, h1, h2⟩ := trod_ty 9 t fuel _ d ps hs hf hw
  have hs0 := hs
  rw [supB] at hs
  have one : v.cells.toList = [v] → ∃ x, ds = [x] ∧ RD w (Fall w) x v := fun e => by
    rw [e] at h1
    cases h1 with | cons h1 _ hr => cases hr; exact ⟨_, rfl, h1⟩
  cases hu : P.underlying t with
  | none => rw [hu] at hs; cases hs
  | some dsc =>
    rw [hu] at hs
    have fin : v.cells.toList = [v] → (∀ x, Ty P 9 t [x] → TyV P t x) → ∃ x, TyV P t x ∧ RD w (Fall w) x v := fun e hx => by
      obtain ⟨x, rfl, hr⟩ := one e
      exact ⟨x, hx x h2, hr⟩
    have agg : (∃ cs, v = .agg cs) → (∀ ds, Ty P 9 t ds → TyV P t (.agg ds)) → ∃ x, TyV P t x ∧ RD w (Fall w) x v := fun ⟨cs, e⟩ hx => by
      subst e
      exact ⟨.agg ds, hx ds h2, by simpa [Value.cells] using RD.agg h1⟩
    cases dsc <;> try (simp at hs; done)
    · obtain ⟨b, rfl⟩ := okWide_bool hu hok; exact fin rfl fun x hx => by unfold TyV; rw [hu]; exact hx
    · obtain ⟨b, rfl⟩ := okWide_int hu hok; exact fin rfl fun x hx => by unfold TyV; rw [hu]; exact hx
    · obtain ⟨b, rfl⟩ := okWide_string hu hok; exact fin rfl fun x hx => by unfold TyV; rw [hu]; exact hx
    · obtain ⟨a, l, c, rfl⟩ := okWide_slice hu hok; exact fin rfl fun x hx => by unfold TyV; rw [hu]; exact hx
    · unfold Value.okWide at hok
      rw [hu] at hok
      obtain ⟨cs, e, _⟩ := hok
      exact agg ⟨cs, e⟩ fun ds hd => by unfold TyV; rw [hu]; exact ⟨ds, rfl, hd⟩
    · unfold Value.okWide at hok
      rw [hu] at hok
      obtain ⟨cs, e, _⟩ := hok
      exact agg ⟨cs, e⟩ fun ds hd => by unfold TyV; rw [hu]; exact ⟨ds, rfl, hd⟩
theorem args_ty : ∀ {ts : List TypeId} {vs : List Value} {ds : List (DataW H)} {ps : List MemPlace}, (ts.all fun t => supB P 9 t) = true → (∀ (j : Nat) (t : TypeId) (v : Value), ts[j]? = some t → vs[j]? = some v → Value.okWide P w .any base t v) → DataW.TrodAll enc P w 0 (fun _ => true) true ts vs ds ps → (∀ x ∈ DataW.weightsEach P ts ds, x ≤ reachBytes) →
    ∃ as, ArgsTy P ts as ∧ RAs w (Fall w) (fun _ => none) as vs
  | [], vs, ds, ps, _, _, h, _ => by
    obtain ⟨rfl, rfl, rfl⟩ := trodAll_nil h
    exact ⟨[], rfl, .nil⟩
  | t :: ts, vs, ds, ps, hs, hok, h, hw => by
    obtain ⟨v, vs', d, ds', p, q, rfl, rfl, rfl, h0, r0⟩ := trodAll_cons h
    simp only [List.all_cons, Bool.and_eq_true] at hs
    obtain ⟨x, h1, h2⟩ := arg_tyV hs.1 (hok 0 t v rfl rfl) h0 fun y hy => hw y (by rw [DataW.weightsEach]; exact List.mem_append_left _ hy)
    obtain ⟨as, h3, h4⟩ := args_ty hs.2 (fun j t v h1 h2 => hok (j + 1) t v (by simpa using h1) (by simpa using h2)) r0 fun y hy => hw y (by rw [DataW.weightsEach]; exact List.mem_append_right _ hy)
    exact ⟨.d x :: as, ⟨x, as, rfl, h1, h3⟩, .cons (.d h2) h4⟩
/-- **From a law's contract to what its statement asks of the walk.** -/
theorem lawWalk_of_sat {F : FuncId} {fn : Func} (hs : (fn.params.toList.all fun t => supB P 9 t) = true) (h : ∀ as, ArgsTy P fn.params.toList as → Sat P F as [] (.d (.v (.bool true))) []) : LawWalk H enc P F fn := by
  intro W base args ds p hok hT hw
  obtain ⟨as, h1, h2⟩ := args_ty hs (fun j t v h1 h2 => hok j t v (by simpa using h1) (by simpa using h2)) hT fun x hx => by
    have := List.all_eq_true.1 hw x hx
    simpa using this
  have En : Env (Fall W) (fun _ => none) (hp []) W := ⟨fun b h => h, fun i _ => rfl, fun i o h => by simp [hp] at h, fun i j o o' _ _ _ h => by simp [hp] at h⟩
  have := h as h1 (Fall W) (fun _ => none) W args.toList En h2
  have e : args.toList.toArray = args := by simp
  rw [e] at this
  refine this.mono ?_
  rintro en W' ⟨v, rfl, F', ρ', S, _, _, R⟩
  have := R.v_out
  subst this
  exact ⟨rfl, S.os, S.tape, S.output, S.size, fun b hb => S.unch b hb fun ⟨i, o, hh, h, _⟩ => by simp [hp] at h⟩
end
end Go.Proofs.Ytgidaifoiljgoaa
