/- Parts EqS, CeI, CeJ, CeK, CeG0, Mp, Mn, ShA, ShB of the proof, put together. -/
import Derived.Test.YtbjmdnemeidpjaaM7
import Derived.DeepKeys
import Derived.MapKept
import Derived.WideKeyRuns
/- Arrays and structs of numbers and bools, however deep, are compared. No program is named here. -/
namespace Go.Proofs.Ytbjmdnemeidpjaa
set_option linter.unusedSimpArgs false
set_option linter.unusedVariables false
open Go.RowKit
set_option linter.unusedSectionVars false
/-- What a cell holds: a bool, or a number of a kind. -/
abbrev Kd := Option IntKind
def okV : Kd → Value → Prop
  | none, v => ∃ b, v = .bool b
  | some q, v => ∃ z, v = .int q z ∧ (Lit.int q z).wf = true
def okL : List Kd → List Value → Prop
  | [], vs => vs = []
  | k :: ks, vs => ∃ v r, vs = v :: r ∧ okV k v ∧ okL ks r
def litV : Value → Lit
  | .bool b => .bool b
  | .int q z => .int q z
  | _ => .bool false
theorem okL_len : ∀ {ks : List Kd} {vs : List Value}, okL ks vs → vs.length = ks.length
  | [], _, h => by cases h; rfl
  | _ :: _, _, ⟨_, _, rfl, _, h⟩ => by simp [okL_len h]
theorem okL_app : ∀ {las bs : List Kd} {vs : List Value}, okL (las ++ bs) vs → ∃ x y, vs = x ++ y ∧ okL las x ∧ okL bs y
  | [], _, vs, h => ⟨[], vs, rfl, rfl, h⟩
  | _ :: _, _, _, ⟨v, r, rfl, h1, h⟩ => by
    obtain ⟨x, y, rfl, h2, h3⟩ := okL_app h
    exact ⟨v :: x, y, rfl, ⟨v, x, rfl, h1, h2⟩, h3⟩
theorem litV_inj : ∀ {ks : List Kd} {us vs : List Value}, okL ks us → okL ks vs → (us.map litV = vs.map litV ↔ us = vs)
  | [], _, _, h, h' => by cases h; cases h'; simp
  | none :: ks, _, _, ⟨_, r, rfl, ⟨b, rfl⟩, h⟩, ⟨_, r', rfl, ⟨b', rfl⟩, h'⟩ => by
    simp [litV, litV_inj h h']
  | some q :: ks, _, _, ⟨_, r, rfl, ⟨z, rfl, _⟩, h⟩, ⟨_, r', rfl, ⟨z', rfl, _⟩, h'⟩ => by
    simp [litV, litV_inj h h']
section
variable {P : Program} {L : List AObj} {ty n : Nat} {x y : Operand} {t t' : TypeId}
def fieldsK (P : Program) (k : TypeId → Option (List Kd)) : List Field → Nat → Option (List Kd)
  | [], _ => some []
  | f :: fs, o => match Nat.beq f.offset o, k f.type with
    | true, some a => (match Nat.beq a.length (P.cellsOf f.type), fieldsK P k fs (o + a.length) with
      | true, some b => some (a ++ b)
      | _, _ => none)
    | _, _ => none
def kinds (P : Program) : Nat → TypeId → Option (List Kd)
  | 0, _ => none
  | m + 1, t => match P.underlying t with
    | some .bool => some [none]
    | some (.int q) => some [some q]
    | some (.array n e) => (match kinds P m e with
      | some ks => if ks.length = P.cellsOf e ∧ n * ks.length = P.cellsOf t then some (List.replicate n ks).flatten else none
      | none => none)
    | some (.struct fs) => (match fieldsK P (kinds P m) fs.toList 0 with
      | some ks => if ks.length = P.cellsOf t ∧ fs.all (·.name != "_") = true then some ks else none
      | none => none)
    | _ => none
theorem fieldsK_lits {k : TypeId → Option (List Kd)} {K : TypeId → List Value → Option (List Lit)} (hk : ∀ t ks us, k t = some ks → okL ks us → K t us = some (us.map litV)) (vs : List Value) : ∀ (fs : List Field) (o : Nat) (ks : List Kd), fieldsK P k fs o = some ks → okL ks (vs.drop o) →
    ∃ las, fs.mapM (fun f => K f.type ((vs.drop f.offset).take (P.cellsOf f.type))) = some las ∧ las.flatten = (vs.drop o).map litV
  | [], o, ks, h, hv => by
    have h : some [] = some ks := h
    cases h
    have hv : vs.drop o = [] := hv
    exact ⟨[], rfl, by rw [hv]; rfl⟩
  | f :: fs, o, ks, h, hv => by
    unfold fieldsK at h
    split at h
    · rename_i a h1 h2
      have h1 := Nat.eq_of_beq_eq_true h1
      split at h
      · rename_i b h3 h4
        have h3 := Nat.eq_of_beq_eq_true h3
        cases h
        obtain ⟨u, w, e, hu, hw⟩ := okL_app hv
        have hul := okL_len hu
        have e1 : (vs.drop f.offset).take (P.cellsOf f.type) = u := by rw [h1, e, List.take_left' (by omega)]
        have e2 : vs.drop (o + a.length) = w := by rw [← List.drop_drop, e, List.drop_left' hul]
        obtain ⟨las, g1, g2⟩ := fieldsK_lits hk vs fs _ b h4 (by rw [e2]; exact hw)
        refine ⟨u.map litV :: las, ?_, ?_⟩
        · rw [List.mapM_cons, e1, hk _ _ _ h2 hu, g1]; rfl
        · rw [List.flatten_cons, g2, e2, e, List.map_append]
      · cases h
    · cases h
theorem array_lits {ks : List Kd} {c : Nat} {K : List Value → Option (List Lit)} (hK : ∀ us, okL ks us → K us = some (us.map litV)) (hc : ks.length = c) (vs : List Value) : ∀ (n s : Nat), okL (List.replicate n ks).flatten (vs.drop (s * c)) →
    ∃ las, (List.range' s n).mapM (fun i => K ((vs.drop (i * c)).take c)) = some las ∧ las.flatten = (vs.drop (s * c)).map litV
  | 0, s, h => by
    have h : vs.drop (s * c) = [] := h
    exact ⟨[], rfl, by rw [h]; rfl⟩
  | n + 1, s, h => by
    rw [List.replicate_succ, List.flatten_cons] at h
    obtain ⟨u, w, e, hu, hw⟩ := okL_app h
    have hul := okL_len hu
    have e1 : (vs.drop (s * c)).take c = u := by rw [e, List.take_left' (by omega)]
    have e2 : vs.drop ((s + 1) * c) = w := by rw [Nat.add_mul, Nat.one_mul, ← List.drop_drop, e, List.drop_left' (by omega)]
    obtain ⟨las, g1, g2⟩ := array_lits hK hc vs n (s + 1) (by rw [e2]; exact hw)
    refine ⟨u.map litV :: las, ?_, ?_⟩
    · rw [List.range'_succ, List.mapM_cons, e1, hK _ hu, g1]; rfl
    · rw [List.flatten_cons, g2, e2, e, List.map_append]
theorem kinds_lits : ∀ (m : Nat) (t : TypeId) (ks : List Kd) (us : List Value), kinds P m t = some ks → okL ks us → P.keyLits m t us = some (us.map litV)
  | 0, _, _, _, h, _ => by cases h
  | m + 1, t, ks, us, h, hu => by
    unfold kinds at h
    have hl := okL_len hu
    split at h
    · rename_i hy
      cases h
      obtain ⟨v, r, rfl, ⟨b, rfl⟩, hr⟩ := hu
      have hr : r = [] := hr
      subst hr
      simp [Program.keyLits, hy, litV]
    · rename_i q hy
      cases h
      obtain ⟨v, r, rfl, ⟨z, rfl, hz⟩, hr⟩ := hu
      have hr : r = [] := hr
      subst hr
      simp [Program.keyLits, hy, litV, hz]
    · rename_i n e hy
      split at h
      · rename_i ks0 hk0
        split at h
        · rename_i hc
          cases h
          have hlen : (List.replicate n ks0).flatten.length = n * ks0.length := by simp
          unfold Program.keyLits
          rw [hy]
          have := array_lits (K := P.keyLits m e) (fun us hu => kinds_lits m e ks0 us hk0 hu) hc.1 us n 0 (by simpa using hu)
          obtain ⟨las, g1, g2⟩ := this
          simp only []
          rw [if_pos (by rw [hl, hlen]; exact hc.2), List.range_eq_range', g1]
          simp [g2]
        · cases h
      · cases h
    · rename_i fs hy
      split at h
      · rename_i ks0 hk0
        split at h
        · rename_i hc
          cases h
          unfold Program.keyLits
          rw [hy]
          obtain ⟨las, g1, g2⟩ := fieldsK_lits (K := P.keyLits m) (fun t ks us h1 h2 => kinds_lits m t ks us h1 h2) us fs.toList 0 ks hk0 (by simpa using hu)
          simp only []
          rw [if_pos ⟨by rw [hl]; exact hc.1, hc.2⟩, g1]
          simp [g2]
        · cases h
      · cases h
    · cases h
def wideT (P : Program) (t : TypeId) : Bool := match P.underlying t with | some (.array _ _) => true | some (.struct _) => true | _ => false
def scB (P : Program) (t : TypeId) (ks : List Kd) : Bool := P.keyTypeAt 8 t && wideT P t && !P.eqGuardType P.depth t && decide (kinds P 8 t = some ks) && Nat.beq ks.length (P.cellsOf t)
theorem formed_wide {us : List Value} (h : wideT P t = true) (hl : us.length = P.cellsOf t) : (Value.agg us.toArray).formed P t = true := by
  unfold wideT at h
  split at h
  · rename_i hy; simp [Value.formed, hy, hl]
  · rename_i hy; simp [Value.formed, hy, hl]
  · cases h
theorem run_scalars {ks : List Kd} (h : scB P t ks = true) {us vs : List Value} (hu : okL ks us) (hv : okL ks vs) {b : Bool} (hb : b = true ↔ us = vs) (w : World) : (Op.equalIn 10000 t (.agg us.toArray) (.agg vs.toArray)).run P w = .ok b w := by
  unfold scB at h
  simp only [Bool.and_eq_true, Bool.not_eq_true', decide_eq_true_eq] at h
  obtain ⟨⟨⟨⟨h1, h2⟩, h3⟩, h4⟩, h5⟩ := h
  have h5 := Nat.eq_of_beq_eq_true h5
  have hE : EqAt P 10000 t := run_equalIn_deep 9992 8 t h1
  obtain ⟨r, hr, hiff⟩ := hE w 8 8 _ _ _ _ (formed_wide (us := us) h2 (by rw [okL_len hu, h5])) (formed_wide (us := vs) h2 (by rw [okL_len hv, h5])) (kinds_lits 8 t ks _ h4 (by simpa [Value.cells] using hu)) (kinds_lits 8 t ks _ h4 (by simpa [Value.cells] using hv))
  rw [hr]
  have e : r = b := by
    rw [Bool.eq_iff_iff, hiff, hb]
    simpa [Value.cells] using litV_inj hu hv
  rw [e]
theorem neSc {ks : List Kd} (h : scB P t ks = true) {xs ys : List D} {us vs : List Value} (fx : FlatVs xs us) (fy : FlatVs ys vs) (hu : okL ks us) (hv : okL ks vs) {b : Bool} (hb : b = true ↔ us = vs) :
    Does P (.binOp .neq t x y t') ty L n [.d (.agg xs), .d (.agg ys)] e0 (.d (.v (.bool (!b)))) :=
  does_ra2 rfl fun o w F ρ ev u v ho h1 h2 hu' hv' => by
    have := FlatW.eq (.d (.agg fx)) hu'
    subst this
    have := FlatW.eq (.d (.agg fy)) hv'
    subst this
    have hg : P.eqGuardType P.depth t = false := by
      unfold scB at h
      simp only [Bool.and_eq_true, Bool.not_eq_true'] at h
      exact h.1.1.2
    exact exec_eq ho h1 h2 (run_eqGuard_agg w .neq _ _ _ _ _ hg) (by rw [run_neq_struct, run_scalars h hu hv hb]; rfl)
end
end Go.Proofs.Ytbjmdnemeidpjaa
/- Cells are compared; Merge. -/
namespace Go.Proofs.Ytbjmdnemeidpjaa
set_option linter.unusedSimpArgs false
set_option linter.unusedVariables false
open Go.RowKit
set_option maxRecDepth 100000
def uv (z : Int) : Value := .int .u64 z
def clV (c : Cel) : List Value := i64v c.n :: i64v (hiZ c.s) :: uv (loZ c.s) :: i64v c.mn :: i64v c.mx :: i64v c.ce :: i64v c.po :: c.h.map i64v
theorem cR_flat (c : Cel) : FlatVs (cR c) (clV c) := .cons (.v _) rfl (.cons (.v _) rfl (.cons (.v _) rfl (.cons (.v _) rfl (.cons (.v _) rfl (.cons (.v _) rfl (.cons (.v _) rfl (hR_flat c.h)))))))
theorem wf64 {z : Int} (h : in64 z) : (Lit.int .i64 z).wf = true := by
  unfold in64 at h
  simp only [Lit.wf, Bool.and_eq_true, decide_eq_true_eq]
  exact ⟨h.1, h.2⟩
theorem wfu {z : Int} (h : 0 ≤ z ∧ z < word) : (Lit.int .u64 z).wf = true := by
  unfold word at h
  simp only [Lit.wf, Bool.and_eq_true, decide_eq_true_eq]
  exact ⟨h.1, Int.le_of_lt_add_one h.2⟩
abbrev kC : List Kd := some .i64 :: some .i64 :: some .u64 :: some .i64 :: some .i64 :: some .i64 :: some .i64 :: List.replicate 65 (some .i64)
theorem okL_longs : ∀ {l : List Int} {n : Nat}, l.length = n → (∀ z ∈ l, in64 z) → okL (List.replicate n (some .i64)) (l.map i64v)
  | [], 0, _, _ => rfl
  | z :: l, n + 1, h, hx => ⟨_, _, rfl, ⟨z, rfl, wf64 (hx z (List.mem_cons_self ..))⟩, okL_longs (by simpa using h) fun y hy => hx y (List.mem_cons_of_mem _ hy)⟩
  | [], n + 1, h, _ => by simp at h
  | _ :: _, 0, h, _ => by simp at h
theorem clV_ok {c : Cel} (h : CelOK c) : okL kC (clV c) :=
  ⟨_, _, rfl, ⟨_, rfl, wf64 h.n⟩, _, _, rfl, ⟨_, rfl, wf64 h.s⟩, _, _, rfl, ⟨_, rfl, wfu (by unfold loZ word; omega)⟩, _, _, rfl, ⟨_, rfl, wf64 h.mn⟩, _, _, rfl, ⟨_, rfl, wf64 h.mx⟩, _, _, rfl, ⟨_, rfl, wf64 h.ce⟩, _, _, rfl, ⟨_, rfl, wf64 h.po⟩, okL_longs h.hl h.hx⟩
theorem i64v_inj {a b : Int} (h : i64v a = i64v b) : a = b := by unfold i64v at h; injection h
theorem clV_inj (c d : Cel) : decide (c = d) = true ↔ clV c = clV d := by
  rw [decide_eq_true_eq]
  refine ⟨fun h => by rw [h], fun h => ?_⟩
  unfold clV uv at h
  simp only [List.cons.injEq, Value.int.injEq, true_and] at h
  obtain ⟨h1, h2, h3, h4, h5, h6, h7, h8⟩ := h
  refine Cel.ext' (i64v_inj h1) ?_ (i64v_inj h4) (i64v_inj h5) (i64v_inj h6) (i64v_inj h7) ?_
  · rw [← wide_split c.s, ← wide_split d.s, i64v_inj h2, h3]
  · exact (List.map_inj_right (fun a b q => i64v_inj q)).1 h8
section
variable {L : List AObj} {ty n : Nat} {x y : Operand} {t' : TypeId} {c d : Cel}
theorem scC : scB Try.prog 29 kC = true := by kernel_rfl
theorem neCC (hc : CelOK c) (hd : CelOK d) : Does Try.prog (.binOp .neq 29 x y t') ty L n [.d (cD c), .d (cD d)] e0 (bA (!decide (c = d))) := neSc scC (cR_flat c) (cR_flat d) (clV_ok hc) (clV_ok hd) (clV_inj c d)
abbrev bD (b : Bool) : D := .v (.bool b)
abbrev fitB (a b c d : Bool) : List D := [bD a, bD b, bD c, bD d]
end
end Go.Proofs.Ytbjmdnemeidpjaa
/- Merge of cells, its plain part. -/
namespace Go.Proofs.Ytbjmdnemeidpjaa
set_option linter.unusedSimpArgs false
set_option linter.unusedVariables false
open Go.RowKit
set_option maxRecDepth 100000
end Go.Proofs.Ytbjmdnemeidpjaa
/- Merge of cells. -/
namespace Go.Proofs.Ytbjmdnemeidpjaa
set_option linter.unusedSimpArgs false
set_option linter.unusedVariables false
open Go.RowKit
set_option maxRecDepth 100000
end Go.Proofs.Ytbjmdnemeidpjaa
/- What a cell is after Add, Note, whatever they answer. -/
namespace Go.Proofs.Ytbjmdnemeidpjaa
set_option linter.unusedSimpArgs false
set_option linter.unusedVariables false
set_option maxRecDepth 100000
theorem zC_ok : CelOK zC := ⟨by decide, by decide, by decide, by decide, by decide, by decide, by decide, by decide⟩
theorem addC_okA {c : Cel} {v : Int} (hc : CelOK c) (hv : in64 v) : CelOK (addC c v).1 := by
  by_cases hr : rightC c = true
  · by_cases hn : c.n = big
    · have e : addC c v = (zC, 12) := by unfold addC; rw [if_neg (by rw [hr]; simp), if_pos hn]
      rw [e]; exact zC_ok
    · by_cases hs : in128 (c.s + v)
      · exact addC_ok hc (right_iff.1 hr) hv hn hs
      · have e : addC c v = (zC, 12) := by unfold addC; rw [if_neg (by rw [hr]; simp), if_neg hn, if_pos hs]
        rw [e]; exact zC_ok
  · have e : addC c v = (zC, 10) := by unfold addC; rw [if_pos (by simpa using hr)]
    rw [e]; exact zC_ok
theorem noteC_okA {c : Cel} {b : Bool} (hc : CelOK c) : CelOK (noteC c b).1 := by
  by_cases hr : rightC c = true
  · by_cases hn : (if b then c.ce else c.po) = big
    · have e : noteC c b = (zC, 12) := by unfold noteC; rw [if_neg (by rw [hr]; simp), if_pos hn]
      rw [e]; exact zC_ok
    · exact noteC_ok hc (right_iff.1 hr) hn
  · have e : noteC c b = (zC, 10) := by unfold noteC; rw [if_pos (by simpa using hr)]
    rw [e]; exact zC_ok
end Go.Proofs.Ytbjmdnemeidpjaa
/- Maps of the call's own: made, looked up, written, shortened, counted. No program is named here. -/
namespace Go.Proofs.Ytbjmdnemeidpjaa
set_option linter.unusedSimpArgs false
set_option linter.unusedVariables false
open Go.RowKit
set_option linter.unusedSectionVars false
/-! ### closed data as values -/
def vOf : D → Value
  | .v u => u
  | .agg ds => .agg (ds.map unD).toArray
  | .sl _ _ => undef
def closedC : List D → Bool
  | [] => true
  | .v u :: r => u.oneCell' && closedC r
  | _ :: _ => false
def closedD : D → Bool
  | .v _ => true
  | .agg ds => closedC ds
  | .sl _ _ => false
theorem closedC_flat : ∀ {ds : List D}, closedC ds = true → FlatVs ds (ds.map unD)
  | [], _ => .nil
  | .v u :: r, h => by
    simp only [closedC, Bool.and_eq_true] at h
    exact .cons (.v u) h.1 (closedC_flat h.2)
  | .agg _ :: _, h => by simp [closedC] at h
  | .sl _ _ :: _, h => by simp [closedC] at h
theorem closed_flat {x : D} (h : closedD x = true) : FlatV x (vOf x) := by
  cases x with
  | v u => exact .v u
  | agg ds => exact .agg (closedC_flat h)
  | sl s r => cases h
/-! ### a map as a list: keys, elements, births -/
section
variable {κ ν : Type} [DecidableEq κ]
abbrev Es (κ ν : Type) := List (κ × ν × Nat)
def atX (l : Es κ ν) (k : κ) : Option Nat := (l.map (·.1)).findIdx? fun x => decide (x = k)
def findX (l : Es κ ν) (k : κ) : Option ν := (l.find? fun p => decide (p.1 = k)).map (·.2.1)
def hasX (l : Es κ ν) (k : κ) : Bool := (findX l k).isSome
def putX (k : κ) (v : ν) (c : Nat) : Es κ ν → Es κ ν
  | [] => [(k, v, c)]
  | p :: r => if p.1 = k then (k, v, p.2.2) :: r else p :: putX k v c r
def clkX (k : κ) (l : Es κ ν) (c : Nat) : Nat := if hasX l k then c else c + 1
def delX (k : κ) : Es κ ν → Es κ ν
  | [] => []
  | p :: r => if p.1 = k then r else p :: delX k r
def entryOf (ek : κ → D) (ev : ν → D) (p : κ × ν × Nat) : MapEntry := { key := vOf (ek p.1), val := vOf (ev p.2.1), born := p.2.2 }
/-- A map object of just these entries. -/
def mapQ (ek : κ → D) (ev : ν → D) (l : Es κ ν) (c : Nat) (o : Obj) : Prop := o = .map (l.map (entryOf ek ev)).toArray c
abbrev mapO (ek : κ → D) (ev : ν → D) (l : Es κ ν) (c : Nat) : AObj := .obj (mapQ ek ev l c)
/-- A type of keys. -/
structure KeyT (P : Program) (kt : TypeId) (ek : κ → D) : Prop where
  cl : ∀ k, closedD (ek k) = true
  chk : ∀ (b : Bool) (k : κ) (w : World), (Instr.checkKey b 10000 kt (vOf (ek k))).run P w = .ok () w
  fnd : ∀ (k : κ) (ks : List κ) (es : List MapEntry) (w : World), es.map (·.key) = ks.map (fun k => vOf (ek k)) → (Instr.findKey kt (vOf (ek k)) es).run P w = .ok ((ks.findIdx? fun x => decide (x = k)).bind fun i => (es[i]?).map fun e => (i, e.val)) w
  same : ∀ k, Instr.sameBits 10000 (vOf (ek k)) (vOf (ek k)) = true
theorem findX_idx (m : Es κ ν) (k : κ) : findX m k = (atX m k).bind fun i => (m[i]?).map (·.2.1) := by
  unfold findX atX
  induction m with
  | nil => rfl
  | cons p m ih =>
    rw [List.find?_cons, List.map_cons, List.findIdx?_cons]
    by_cases h : p.1 = k
    · simp [h]
    · simp only [h, decide_false, Bool.false_eq_true, if_false]
      rw [ih]
      cases (m.map (·.1)).findIdx? fun x => decide (x = k) <;> simp
theorem putX_idx (m : Es κ ν) (k : κ) (v : ν) (c : Nat) : putX k v c m = match atX m k with | some i => m.modify i (fun p => (k, v, p.2.2)) | none => m ++ [(k, v, c)] := by
  unfold atX
  induction m with
  | nil => rfl
  | cons p m ih =>
    rw [putX, List.map_cons, List.findIdx?_cons]
    by_cases h : p.1 = k
    · simp [h]
    · simp only [h, decide_false, Bool.false_eq_true, if_false]
      rw [ih]
      cases (m.map (·.1)).findIdx? fun x => decide (x = k) <;> simp
theorem delX_idx (m : Es κ ν) (k : κ) : delX k m = match atX m k with | some i => m.eraseIdx i | none => m := by
  unfold atX
  induction m with
  | nil => rfl
  | cons p m ih =>
    rw [delX, List.map_cons, List.findIdx?_cons]
    by_cases h : p.1 = k
    · simp [h]
    · simp only [h, decide_false, Bool.false_eq_true, if_false]
      rw [ih]
      cases (m.map (·.1)).findIdx? fun x => decide (x = k) <;> simp
theorem findIdx_lt {l : List κ} {p : κ → Bool} {i : Nat} (h : l.findIdx? p = some i) : i < l.length ∧ ∀ x, l[i]? = some x → p x = true := by
  induction l generalizing i with
  | nil => simp at h
  | cons y l ih =>
    rw [List.findIdx?_cons] at h
    by_cases hp : p y = true
    · rw [if_pos hp] at h; injection h with h; subst h
      exact ⟨by simp, fun x hx => by simp at hx; subst hx; exact hp⟩
    · rw [if_neg hp] at h
      cases hq : l.findIdx? p with
      | none => rw [hq] at h; cases h
      | some j =>
        rw [hq] at h; simp at h; subst h
        obtain ⟨h1, h2⟩ := ih hq
        exact ⟨by simp; exact h1, fun x hx => h2 x (by simpa using hx)⟩
end
section
variable {P : Program} {w w' : World} {F F' : Nat → Prop} {ρ ρ' : Nat → Option Value} {H : Hp} {L : List AObj} {ty n : Nat} {κ ν : Type} [DecidableEq κ] {ek : κ → D} {ev : ν → D} {m : Es κ ν} {c : Nat} {t kt et : TypeId} {i j : Nat} {k : κ} {v : ν} {mx kx vx : Operand}
/-- The map behind a handle. -/
theorem Env.mapAt (E : Env F ρ H w) (hi : H i = some (mapO ek ev m c)) {u : Value} (hu : RA w F ρ (.mp i) u) :
    ∃ b, u = .map (some b) ∧ ρ i = some (.map (some b)) ∧ w.heap[b]? = some (.map (m.map (entryOf ek ev)).toArray c) := by
  cases hu with | mp hρ =>
    rename_i b
    obtain ⟨hh, e1, ⟨b', o, hb, ho, h1⟩, e3⟩ := E.rep i _ hi rfl
    rw [hρ] at e1; injection e1 with e1; subst e1
    have h1 : o = .map (m.map (entryOf ek ev)).toArray c := h1
    subst h1
    rcases hb with hb | hb
    · cases hb
    · injection hb with hb; injection hb with hb; subst hb
      exact ⟨_, rfl, hρ, ho⟩
theorem grown_mp {b : Nat} {o o' : Obj} (hb : w.heap[b]? = some o) : w.grownBy { w with heap := w.heap.setIfInBounds b o' } (some b) := by
  refine ⟨rfl, rfl, rfl, by simp, fun g hg hne => ?_⟩
  have : b ≠ g := fun e => hne (by rw [e])
  simp [this]
theorem alloc_lt (w : World) (o : Obj) : w.heap.size < (w.alloc o).heap.size := by
  have : (w.alloc o).heap = w.heap.push o := rfl
  rw [this]; simp
theorem eraseIdx_map' {α β : Type} (f : α → β) : ∀ (l : List α) (i : Nat), (l.eraseIdx i).map f = (l.map f).eraseIdx i
  | [], _ => rfl
  | _ :: _, 0 => rfl
  | x :: l, i + 1 => by simp [List.eraseIdx, eraseIdx_map' f l i]
/-- What is found in a map object. -/
theorem run_found (K : KeyT P kt ek) (m : Es κ ν) (k : κ) (w : World) :
    (findX m k = none ∧ (Instr.findKey kt (vOf (ek k)) (m.map (entryOf ek ev))).run P w = .ok none w ∧ atX m k = none) ∨ ∃ j p, findX m k = some p.2.1 ∧ (Instr.findKey kt (vOf (ek k)) (m.map (entryOf ek ev))).run P w = .ok (some (j, vOf (ev p.2.1))) w ∧ atX m k = some j ∧ m[j]? = some p ∧ p.1 = k := by
  have h1 := K.fnd k (m.map (·.1)) (m.map (entryOf ek ev)) w (by simp [List.map_map, Function.comp_def, entryOf])
  have h2 := findX_idx m k
  rw [show ((m.map (·.1)).findIdx? fun x => decide (x = k)) = atX m k from rfl] at h1
  cases hj : atX m k with
  | none => rw [hj] at h1 h2; exact .inl ⟨h2, h1, rfl⟩
  | some j =>
    rw [hj] at h1 h2
    obtain ⟨q1, q2⟩ := findIdx_lt hj
    have q1' : j < m.length := by simpa using q1
    have hkk : m[j].1 = k := by simpa using q2 m[j].1 (by simp [List.getElem?_eq_getElem q1'])
    refine .inr ⟨j, m[j], ?_, ?_, rfl, List.getElem?_eq_getElem q1', hkk⟩
    · rw [h2]; simp [List.getElem?_eq_getElem q1']
    · rw [h1]; simp [List.getElem?_eq_getElem q1', entryOf]
theorem mp_make : Does P (.makeMap t none) ty L n [] ⟨[], [], [mapO ek ev [] 0]⟩ (.mp n) := by
  intro o H F ρ w ev' ho ht En hrs hn hx
  have hn0 : H n = none := by simpa using hn 0 (by simp)
  have hrun : (execOp ev' o).run P w = .ok (.value (.map (some w.heap.size))) (w.alloc (.map #[] 0)) := by
    simp only [execOp, ho, Sem.run_bind]
    rfl
  rw [hrun]
  obtain ⟨S1, K1, E1⟩ := En.new (n := n) (o' := mapO ek ev [] 0) (h := .map (some w.heap.size)) hn0 (World.grownBy_alloc w (.map #[] 0) none) (fun b hb => by simp [blkOf] at hb; subst hb; exact ⟨Nat.le_refl _, alloc_lt _ _⟩)
    ⟨w.heap.size, .map #[] 0, .inr rfl, (MapKept.heap_alloc w _).1, rfl⟩
  exact ⟨F, _, S1, K1, E1, .mp (updF_same _ _ _)⟩
theorem run_lookup {b : Nat} {z : ν} {cm : Bool} (ht : P.underlying t = some (.map kt et)) (K : KeyT P kt ek) (hz : (zeroValue et).run P w = .ok (vOf (ev z)) w) (hb : w.heap[b]? = some (.map (m.map (entryOf ek ev)).toArray c)) (k : κ) :
    (Instr.lookup t (.map (some b)) (vOf (ek k)) cm).run P w = .ok (if cm then .tuple #[vOf (ev ((findX m k).getD z)), .bool (findX m k).isSome] else vOf (ev ((findX m k).getD z))) w := by
  have hg := MapKept.run_getObj_map (P := P) hb
  have hc := fun b => K.chk b k w
  rcases run_found (ev := ev) K m k w with ⟨h1, h2, _⟩ | ⟨j, x, h1, h2, _⟩
  · rw [h1]
    simp only [Instr.lookup, Sem.run_bind, run_underlying ht, Result.andThen_ok, hg, hc, h2, hz, Sem.run_pure]
    cases cm <;> rfl
  · rw [h1]
    simp only [Instr.lookup, Sem.run_bind, run_underlying ht, Result.andThen_ok, hg, hc, h2, Sem.run_pure]
    cases cm <;> rfl
theorem zero_run {u : Value} (hz : (P.info? et).bind (·.zero) = some u) : (zeroValue et).run P w = .ok u w := by
  obtain ⟨inf, h1, h2⟩ := Option.bind_eq_some_iff.1 hz
  simp [zeroValue, typeInfo, h1, h2]
theorem mp_look (K : KeyT P kt ek) (hv : ∀ x, closedD (ev x) = true) (z : ν) (ht : P.underlying t = some (.map kt et)) (hz : (P.info? et).bind (·.zero) = some (vOf (ev z))) (k : κ) (hi : L[i]? = some (mapO ek ev m c)) :
    Does P (.lookup t mx kx false) ty L n [.mp i, .d (ek k)] ⟨[i], [], []⟩ (.d (ev ((findX m k).getD z))) := by
  intro o H F ρ w ev' ho _ En hrs hn hx
  obtain ⟨u, q, e', hu, hq⟩ := hx.two_out
  simp [Op.operands] at e'
  have hi' : H i = some (mapO ek ev m c) := by rw [hrs i (by simp)]; exact hi
  obtain ⟨b, rfl, e1, e2⟩ := En.mapAt hi' hu
  have := FlatW.eq (.d (closed_flat (K.cl k))) hq
  subst this
  have hr := run_lookup (cm := false) ht K (zero_run hz) e2 k
  have hrun : (execOp ev' o).run P w = .ok (.value (vOf (ev ((findX m k).getD z)))) w := by simp only [execOp, ho, e'.1, e'.2, Sem.run_bind, hr, Result.andThen_ok]; rfl
  rw [hrun]
  exact Post.same En (FlatW.ra (.d (closed_flat (hv _))))
theorem mp_looks (K : KeyT P kt ek) (hv : ∀ x, closedD (ev x) = true) (z : ν) (ht : P.underlying t = some (.map kt et)) (hz : (P.info? et).bind (·.zero) = some (vOf (ev z))) (k : κ) (hi : L[i]? = some (mapO ek ev m c)) :
    Does P (.lookup t mx kx true) ty L n [.mp i, .d (ek k)] ⟨[i], [], []⟩ (.tup [.d (ev ((findX m k).getD z)), .d (.v (.bool (findX m k).isSome))]) := by
  intro o H F ρ w ev' ho _ En hrs hn hx
  obtain ⟨u, q, e', hu, hq⟩ := hx.two_out
  simp [Op.operands] at e'
  have hi' : H i = some (mapO ek ev m c) := by rw [hrs i (by simp)]; exact hi
  obtain ⟨b, rfl, e1, e2⟩ := En.mapAt hi' hu
  have := FlatW.eq (.d (closed_flat (K.cl k))) hq
  subst this
  have hr := run_lookup (cm := true) ht K (zero_run hz) e2 k
  have hrun : (execOp ev' o).run P w = .ok (.value (.tuple #[vOf (ev ((findX m k).getD z)), .bool (findX m k).isSome])) w := by simp only [execOp, ho, e'.1, e'.2, Sem.run_bind, hr, Result.andThen_ok]; rfl
  rw [hrun]
  exact Post.same En (FlatW.ra (.tup (.cons (.d (closed_flat (hv _))) (.cons (.d (.v _)) .nil))))
theorem modify_list {α : Type} (l : List α) (i : Nat) (f : α → α) : (l.toArray.modify i f) = (l.modify i f).toArray := by
  apply Array.ext'
  apply List.ext_getElem?
  intro q
  rw [Array.getElem?_toList, Array.getElem?_modify, List.getElem?_modify]
  by_cases hq : i = q <;> simp [hq]
/-- What an update makes of a map's block. -/
theorem run_put {b : Nat} (ht : P.underlying t = some (.map kt et)) (K : KeyT P kt ek) (hb : w.heap[b]? = some (.map (m.map (entryOf ek ev)).toArray c)) (k : κ) (v : ν) :
    (Instr.mapUpdate t (.map (some b)) (vOf (ek k)) (vOf (ev v))).run P w = .ok () { w with heap := w.heap.setIfInBounds b (.map ((putX k v c m).map (entryOf ek ev)).toArray (clkX k m c)) } := by
  have hg := MapKept.run_getObj_map (P := P) hb
  have hc := K.chk false k w
  rcases run_found (ev := ev) K m k w with ⟨h1, h2, h3⟩ | ⟨j, x, h1, h2, h3, h4, h5⟩
  · have e : (.map ((putX k v c m).map (entryOf ek ev)).toArray (clkX k m c) : Obj) = .map ((m.map (entryOf ek ev)).toArray.push { key := vOf (ek k), val := vOf (ev v), born := c }) (c + 1) := by
      rw [putX_idx, h3, clkX, hasX, h1]
      simp [entryOf]
    rw [e]
    simp only [Instr.mapUpdate, Sem.run_bind, run_underlying ht, Result.andThen_ok, hg, hc, h2, MapKept.run_setObj_map _ hb]
  · have e : (.map ((putX k v c m).map (entryOf ek ev)).toArray (clkX k m c) : Obj) = .map ((m.map (entryOf ek ev)).toArray.modify j fun e => { e with key := vOf (ek k), val := vOf (ev v) }) c := by
      rw [putX_idx, h3, clkX, hasX, h1, modify_list]
      simp only [Option.isSome_some, if_true]
      congr 2
      apply List.ext_getElem?
      intro q
      rw [List.getElem?_map, List.getElem?_modify, List.getElem?_modify, List.getElem?_map]
      by_cases hq : j = q
      · subst hq; rw [h4]; simp [entryOf]
      · simp [hq]
    have hks : (Instr.keyThatStays (vOf (ek k)) (vOf (ek k))).run P w = .ok (vOf (ek k)) w := by simp [Instr.keyThatStays, K.same k]
    have hkk : (((m.map (entryOf ek ev)).toArray[j]?).map (·.key)).getD (vOf (ek k)) = vOf (ek k) := by simp [h4, entryOf, h5]
    rw [e]
    simp only [Instr.mapUpdate, Sem.run_bind, run_underlying ht, Result.andThen_ok, hg, hc, h2, hkk, hks, MapKept.run_setObj_map _ hb]
theorem mp_put (K : KeyT P kt ek) (hv : ∀ x, closedD (ev x) = true) (ht : P.underlying t = some (.map kt et)) (k : κ) (v : ν) (hi : L[i]? = some (mapO ek ev m c)) :
    Does P (.mapUpdate t mx kx vx) ty L n [.mp i, .d (ek k), .d (ev v)] ⟨[i], [(i, mapO ek ev (putX k v c m) (clkX k m c))], []⟩ .any := by
  intro o H F ρ w ev' ho _ En hrs hn hx
  obtain ⟨u, q, r, e', hu, hq, hr⟩ := hx.three_out
  simp [Op.operands] at e'
  have hi' : H i = some (mapO ek ev m c) := by rw [hrs i (by simp)]; exact hi
  obtain ⟨b, rfl, e1, e2⟩ := En.mapAt hi' hu
  have := FlatW.eq (.d (closed_flat (K.cl k))) hq
  subst this
  have := FlatW.eq (.d (closed_flat (hv v))) hr
  subst this
  have g4 := run_put ht K e2 k v
  have hrun : (execOp ev' o).run P w = .ok .skip { w with heap := w.heap.setIfInBounds b (.map ((putX k v c m).map (entryOf ek ev)).toArray (clkX k m c)) } := by simp only [execOp, ho, e'.1, e'.2.1, e'.2.2, Sem.run_bind, g4, Result.andThen_ok]; rfl
  rw [hrun]
  obtain ⟨S1, E1⟩ := En.upd (o' := mapO ek ev (putX k v c m) (clkX k m c)) hi' rfl e1 (grown_mp e2) ⟨b, _, .inr rfl, (MapKept.heap_set e2).1, rfl⟩
  exact ⟨F, ρ, S1, Keep.refl _, E1, .any _⟩
theorem mp_del {kt' : TypeId} (K : KeyT P kt ek) (ht : P.underlying t = some (.map kt et)) (k : κ) (hi : L[i]? = some (mapO ek ev m c)) :
    Does P (.call { callee := .builtin .delete, args := #[mx, kx], argTypes := #[t, kt'] }) ty L n [.mp i, .d (ek k)] ⟨[i], [(i, mapO ek ev (delX k m) c)], []⟩ (.tup []) := by
  intro o H F ρ w ev' ho _ En hrs hn hx
  have hops : (Op.operands (.call { callee := .builtin .delete, args := #[mx, kx], argTypes := #[t, kt'] })).toList = [mx, kx] := by simp [Op.operands, Call.operands]
  rw [hops] at hx
  obtain ⟨u, q, e', hu, hq⟩ := hx.two_out
  simp at e'
  have hi' : H i = some (mapO ek ev m c) := by rw [hrs i (by simp)]; exact hi
  obtain ⟨b, rfl, e1, e2⟩ := En.mapAt hi' hu
  have := FlatW.eq (.d (closed_flat (K.cl k))) hq
  subst this
  have hg := MapKept.run_getObj_map (P := P) e2
  have hc := fun b => K.chk b k w
  have g4 : (Builtin.delete_ #[t, kt'] o.type #[.map (some b), vOf (ek k)]).run P w = .ok (.tuple #[]) { w with heap := w.heap.setIfInBounds b (.map ((delX k m).map (entryOf ek ev)).toArray c) } := by
    rcases run_found (ev := ev) K m k w with ⟨h1, h2, h3⟩ | ⟨j, x, h1, h2, h3, h4, h5⟩
    · rw [delX_idx, h3]
      simp [Builtin.delete_, run_underlying ht, hg, hc, h2, MapKept.run_setObj_map _ e2]
    · have hj := (List.getElem?_eq_some_iff.1 h4).1
      have e : ((delX k m).map (entryOf ek ev)).toArray = (m.map (entryOf ek ev)).toArray.eraseIdxIfInBounds j := by
        rw [delX_idx, h3]
        unfold Array.eraseIdxIfInBounds
        rw [dif_pos (by simpa using hj)]
        apply Array.ext'
        simp [eraseIdx_map']
      rw [e]
      simp [Builtin.delete_, run_underlying ht, hg, hc, h2, MapKept.run_setObj_map _ e2]
  have hrun : (execOp ev' o).run P w = .ok (.value (.tuple #[])) { w with heap := w.heap.setIfInBounds b (.map ((delX k m).map (entryOf ek ev)).toArray c) } := by simp [execOp, ho, resolve, invoke, builtin, e'.1, e'.2, g4]
  rw [hrun]
  obtain ⟨S1, E1⟩ := En.upd (o' := mapO ek ev (delX k m) c) hi' rfl e1 (grown_mp e2) ⟨b, _, .inr rfl, (MapKept.heap_set e2).1, rfl⟩
  exact ⟨F, ρ, S1, Keep.refl _, E1, .tup .nil⟩
theorem mp_len (ht : P.underlying t = some (.map kt et)) (hi : L[i]? = some (mapO ek ev m c)) :
    Does P (.call { callee := .builtin .len, args := #[mx], argTypes := #[t] }) ty L n [.mp i] ⟨[i], [], []⟩ (.d (.v (.int .i64 m.length))) := by
  intro o H F ρ w ev' ho _ En hrs hn hx
  have hops : (Op.operands (.call { callee := .builtin .len, args := #[mx], argTypes := #[t] })).toList = [mx] := by simp [Op.operands, Call.operands]
  rw [hops] at hx
  obtain ⟨u, e', hu⟩ := hx.one_out
  simp at e'
  have hi' : H i = some (mapO ek ev m c) := by rw [hrs i (by simp)]; exact hi
  obtain ⟨b, rfl, e1, e2⟩ := En.mapAt hi' hu
  have hg := MapKept.run_getObj_map (P := P) e2
  have hrun : (execOp ev' o).run P w = .ok (.value (.int .i64 m.length)) w := by simp [execOp, ho, resolve, invoke, builtin, e', Builtin.len_, run_underlying ht, hg, goInt]
  rw [hrun]
  exact Post.same En (.d (.v _))
end
/-! ### kinds of keys -/
section
variable {P : Program} {κ : Type} [DecidableEq κ] {kt : TypeId}
theorem findAsk_list {kv : Value} {f : κ → Value} {k : κ} {w : World} (hs : ∀ x, (Op.equal kt kv (f x)).run P w = .ok (decide (x = k)) w) : ∀ (ks : List κ) (es : List MapEntry) (i : Nat), es.map (·.key) = ks.map f → (Instr.findAsking kt kv es i).run P w = .ok ((ks.findIdx? fun x => decide (x = k)).bind fun j => (es[j]?).map fun e => (i + j, e.val)) w
  | [], es, i, h => by
    have : es = [] := by simpa using h
    subst this; simp [Instr.findAsking]
  | x :: ks, [], i, h => by simp at h
  | x :: ks, e :: es, i, h => by
    simp only [List.map_cons, List.cons.injEq] at h
    rw [Instr.findAsking, h.1]
    simp only [Sem.run_bind, hs x, Result.andThen_ok, List.findIdx?_cons]
    by_cases hk : x = k
    · simp [hk]
    · simp only [hk, decide_false, Bool.false_eq_true, if_false]
      rw [findAsk_list hs ks es (i + 1) h.2]
      cases ks.findIdx? fun x => decide (x = k) with
      | none => rfl
      | some j => simp; congr 1; funext e; congr 1; omega
theorem check_flat {em : Bool} {n : Nat} {us : Array Value} {w : World} : ∀ {fs : List Field} {o : Nat} {ks : List Nat} {xs : List D}, flatGo P fs o ks = true → eqL ks xs xs ≠ none → (∀ j, j < xs.length → us[o + j]? = some (unD (xs.getD j (.v undef)))) →
    (forIn (m := Sem) fs PUnit.unit fun f _ => do
        if f.name ≠ "_" then Instr.checkKey em (n + 1) f.type (← part f.type us f.offset)
        pure (ForInStep.yield PUnit.unit)).run P w = .ok PUnit.unit w
  | [], _, _, _, _, _, _ => by simp
  | f :: fs, o, [], _, hg, _, _ => by simp [flatGo] at hg
  | f :: fs, o, k :: ks, xs, hg, h, hu => by
    obtain ⟨b, hb⟩ := Option.ne_none_iff_exists'.1 h
    obtain ⟨x, xs, y, ys, a, c, rfl, e2, ha, hc, _⟩ := eqL_cons hb
    injection e2 with e2 e3
    subst e2 e3
    simp only [flatGo, Bool.and_eq_true, bne_iff_ne, Nat.blt_eq] at hg
    obtain ⟨⟨⟨⟨h1, h2⟩, h3⟩, h4⟩, h5⟩ := hg
    have h2 := Nat.eq_of_beq_eq_true h2
    have h3 := Nat.eq_of_beq_eq_true h3
    have p1 := part_tag (w := w) h3 h4 (hu 0 (by simp))
    rw [Nat.add_zero, ← h2] at p1
    have p2 : (Instr.checkKey em (n + 1) f.type (unD ((x :: xs).getD 0 (.v undef)))).run P w = .ok () w := by
      have e1 : (x :: xs).getD 0 (.v undef) = x := rfl
      rw [e1]
      rcases eqV_out ha with ⟨rfl, q, a, c, rfl, _⟩ | ⟨rfl, a, c, rfl, _⟩ | ⟨rfl, a, c, rfl, _⟩
      · obtain ⟨k, hk⟩ := tagT_one h3
        simp [unD, Instr.checkKey, run_underlying hk]
      · simp [unD, Instr.checkKey, run_underlying (tagT_two h3)]
      · simp [unD, Instr.checkKey, run_underlying (tagT_three h3)]
    have ih := check_flat (em := em) (n := n) (us := us) (w := w) h5 (by rw [hc]; simp) (fun j hj => by have := hu (j + 1) (by simpa using hj); rw [show o + 1 + j = o + (j + 1) by omega, this]; rfl)
    simp only [List.forIn_cons, Sem.run_bind, h1, ne_eq, not_false_eq_true, if_true, Result.andThen_ok, p1, p2, Sem.run_pure]
    exact ih
theorem closed_unD {ks : List Nat} {xs : List D} (h : eqL ks xs xs ≠ none) : closedC xs = true ∧ xs = xs.map (fun x => .v (unD x)) ∧ Instr.sameBits 10000 (.agg (xs.map unD).toArray) (.agg (xs.map unD).toArray) = true := by
  obtain ⟨b, hb⟩ := Option.ne_none_iff_exists'.1 h
  have key : ∀ {ks : List Nat} {xs : List D} {b : Bool}, eqL ks xs xs = some b → closedC xs = true ∧ ((xs.map unD).zip (xs.map unD)).all (fun (x, y) => Instr.sameBits 9999 x y) = true := by
    intro ks
    induction ks with
    | nil => intro xs b h; obtain ⟨rfl, _, _⟩ := eqL_nil h; exact ⟨rfl, rfl⟩
    | cons k ks ih =>
      intro xs b h
      obtain ⟨x, xs, y, ys, a, c, rfl, e2, ha, hc, _⟩ := eqL_cons h
      injection e2 with e2 e3
      subst e2 e3
      obtain ⟨q1, q2⟩ := ih hc
      rcases eqV_out ha with ⟨rfl, q, a, c, rfl, _⟩ | ⟨rfl, a, c, rfl, _⟩ | ⟨rfl, a, c, rfl, _⟩
      · exact ⟨by simpa [closedC, Value.oneCell'] using q1, by simpa [unD, Instr.sameBits] using q2⟩
      · exact ⟨by simpa [closedC, Value.oneCell'] using q1, by simpa [unD, Instr.sameBits] using q2⟩
      · exact ⟨by simpa [closedC, Value.oneCell'] using q1, by simpa [unD, Instr.sameBits, MapKept.bytes_beq] using q2⟩
  obtain ⟨h1, h2⟩ := key hb
  exact ⟨h1, (eqL_unD hb).1, by simpa [Instr.sameBits] using h2⟩
/-- Structs of numbers, truth values and strings. -/
theorem key_flat (ks : List Nat) {f : κ → List D} (ht : flatB P kt ks = true) (h : ∀ a b, eqL ks (f a) (f b) = some (decide (b = a))) : KeyT P kt (fun k => .agg (f k)) where
  cl k := (closed_unD (by rw [h k k]; simp)).1
  chk b k w := by
    have ht' := ht
    unfold flatB at ht
    split at ht
    · rename_i fs hfs
      simp only [Bool.and_eq_true, Bool.not_eq_true'] at ht
      have := check_flat (em := b) (n := 9998) (us := ((f k).map unD).toArray) (w := w) ht.2 (xs := f k) (by rw [h k k]; simp) (fun j hj => by simp [hj, List.getD])
      rw [show vOf (.agg (f k)) = .agg ((f k).map unD).toArray from rfl, Instr.checkKey]
      simp only [Sem.run_bind, run_underlying hfs, Result.andThen_ok]
      rw [← Array.forIn_toList]
      simp at this ⊢
      rw [this]
      rfl
    · cases ht
  fnd k ks' es w he := by
    have hw : (Instr.findKey kt (vOf (.agg (f k))) es).run P w = (Instr.findAsking kt (vOf (.agg (f k))) es).run P w := by
      refine run_findKey_eq w ?_ _ _
      unfold flatB at ht
      split at ht
      · rename_i hfs; rw [hfs]
      · cases ht
    rw [hw]
    have := findAsk_list (P := P) (kt := kt) (kv := vOf (.agg (f k))) (f := fun k => vOf (.agg (f k))) (k := k) (w := w) (fun x => by
      have q : ∀ k, RA w (fun _ => False) (fun _ => none) (.d (.agg (f k))) (vOf (.agg (f k))) := fun k => FlatW.ra (.d (closed_flat (closed_unD (by rw [h k k]; simp)).1))
      obtain ⟨us, vs, e1, e2, _, hr⟩ := run_flat (P := P) (w := w) ht (h k x) (q k) (q x)
      exact hr) ks' es 0 he
    simpa using this
  same k := (closed_unD (by rw [h k k]; simp)).2.2
end
end Go.Proofs.Ytbjmdnemeidpjaa
/- Ranges over maps of the call's own that nothing is put into meanwhile. No program is named here. -/
namespace Go.Proofs.Ytbjmdnemeidpjaa
set_option linter.unusedSimpArgs false
set_option linter.unusedVariables false
open Go.RowKit
set_option linter.unusedSectionVars false
section
variable {P : Program} {w w' : World} {F F' : Nat → Prop} {ρ ρ' : Nat → Option Value} {H : Hp} {L : List AObj} {ty n : Nat} {κ ν : Type} [DecidableEq κ] {ek : κ → D} {ev : ν → D} {m : Es κ ν} {c : Nat} {t kt et : TypeId} {i j : Nat} {k : κ} {v : ν} {mx kx vx : Operand}
/-! ### ranges -/
/-- An iterator over the map i: entries laid before 'since' were there, those born at 'seen' have come, 'last' is the clock of the last step. -/
def itP (since : Nat) (seen : List Nat) (last : Nat) (u : Value) (o : Obj) : Prop := ∃ g, u = .map (some g) ∧ o = .mapIter (some g) since seen.toArray last
abbrev itO (i since : Nat) (seen : List Nat) (last : Nat) : AObj := .iter (.mp i) (itP since seen last)
/-- The next step of a range over a map that nothing is put into: an entry that has not come, or the end. -/
def nextR (m : Es κ ν) (seen : List Nat) : Option (κ × ν × Nat) → Prop
  | none => ∀ p ∈ m, p.2.2 ∈ seen
  | some p => p ∈ m ∧ p.2.2 ∉ seen
/-- The next step of a range over a map that nothing is put into, as a run. -/
theorem run_next_mp {g b since : Nat} {seen : List Nat} {last : Nat} (q2 : w.heap[g]? = some (.mapIter (some b) since seen.toArray last)) (q4 : w.heap[b]? = some (.map (m.map (entryOf ek ev)).toArray c)) (h1 : ∀ p ∈ m, p.2.2 < since) (h2 : seen = [] ∨ ∀ p ∈ m, p.2.2 < last) :
    ∃ y w1, nextR m seen y ∧ (w1 = w ∨ w1 = w.drew) ∧ (Instr.next (.pointer (some ⟨g, 0, none⟩)) false ty).run P w = (match y with
      | none => .ok (.tuple #[.bool false]) w1
      | some p => .ok (.tuple #[.bool true, vOf (ek p.1), vOf (ev p.2.1)]) { w1 with heap := w1.heap.setIfInBounds g (.mapIter (some b) since (seen ++ [p.2.2]).toArray c) }) := by
  have hg1 : (getObj g).run P w = .ok (.mapIter (some b) since seen.toArray last) w := by simp [getObj, Sem.run, q2]
  have hg2 := MapKept.run_getObj_map (P := P) q4
  have hguard : (!seen.toArray.isEmpty && !(m.map (entryOf ek ev)).toArray.isEmpty && (m.map (entryOf ek ev)).toArray.all (·.born ≥ last)) = false := by
    rcases h2 with rfl | h2
    · simp
    · cases m with
      | nil => simp
      | cons p r =>
        have := h2 p (List.mem_cons_self ..)
        simp [entryOf]
        intro _ h; omega
  have hleft : ((m.map (entryOf ek ev)).toArray.filter fun e => !seen.toArray.contains e.born) = ((m.filter fun p => !seen.contains p.2.2).map (entryOf ek ev)).toArray := by
    apply Array.ext'
    simp only [List.filter_toArray, List.filter_map, Function.comp_def, entryOf, List.contains_toArray]
  generalize hml : (m.filter fun p => !seen.contains p.2.2) = ml at hleft
  have hmem : ∀ p, p ∈ ml ↔ p ∈ m ∧ p.2.2 ∉ seen := fun p => by rw [← hml]; simp
  have hold : ((ml.map (entryOf ek ev)).toArray.filter (·.born < since)) = (ml.map (entryOf ek ev)).toArray := by
    apply Array.ext'
    simp only [List.filter_toArray]
    rw [List.filter_eq_self]
    intro a ha
    obtain ⟨p, hp, rfl⟩ := List.mem_map.1 ha
    exact decide_eq_true (h1 p ((hmem p).1 hp).1)
  have hnew : ((ml.map (entryOf ek ev)).toArray.filter (·.born ≥ since)) = #[] := by
    apply Array.ext'
    simp only [List.filter_toArray]
    rw [List.filter_eq_nil_iff]
    intro a ha
    obtain ⟨p, hp, rfl⟩ := List.mem_map.1 ha
    have := h1 p ((hmem p).1 hp).1
    simpa [entryOf] using this
  have hrun : ∃ q w2, ((ml = [] ∧ q = some none) ∨ ∃ p ∈ ml, q = some (some (entryOf ek ev p))) ∧ (w2 = w ∨ w2 = w.drew) ∧ (Instr.next (.pointer (some ⟨g, 0, none⟩)) false ty).run P w = ((match q with
        | some (some e) => do
          setObj g (.mapIter (some b) since (seen.toArray.push e.born) c)
          pure (.tuple #[.bool true, e.key, e.val])
        | some none => pure (.tuple #[.bool false])
        | none => stuck "Next: no such candidate" : Sem Value)).run P w2 := by
    have hcand : ∀ x, ((if (ml.map (entryOf ek ev)).toArray.isEmpty then #[none] else #[]) ++ ((ml.map (entryOf ek ev)).toArray ++ #[]).map some : Array (Option MapEntry))[x]? = if ml = [] then (if x = 0 then some none else none) else (ml[x]?).map fun p => some (entryOf ek ev p) := by
      intro x
      by_cases h : ml = []
      · subst h
        cases x <;> simp
      · have : (ml.map (entryOf ek ev)).toArray.isEmpty = false := by simp [h]
        rw [this]
        simp [h]
        cases ml[x]? <;> rfl
    have hsize : ((if (ml.map (entryOf ek ev)).toArray.isEmpty then #[none] else #[]) ++ ((ml.map (entryOf ek ev)).toArray ++ #[]).map some : Array (Option MapEntry)).size = if ml = [] then 1 else ml.length := by
      by_cases h : ml = []
      · subst h; simp
      · have : (ml.map (entryOf ek ev)).toArray.isEmpty = false := by simp [h]
        rw [this]
        simp [h]
    have key : ∃ x w2, x < (if ml = [] then 1 else ml.length) ∧ (w2 = w ∨ w2 = w.drew) ∧ (choose (.mapNext (if ml = [] then 1 else ml.length))).run P w = .ok x w2 := by
      have hpos : 0 < (if ml = [] then 1 else ml.length) := by
        split
        · omega
        · rename_i h; exact List.length_pos_iff.2 h
      by_cases hf : (Question.mapNext (if ml = [] then 1 else ml.length)).forced = true
      · exact ⟨0, w, hpos, .inl rfl, by simp only [choose, Sem.run, hf, if_true]⟩
      · refine ⟨(Question.mapNext (if ml = [] then 1 else ml.length)).cut (w.tape w.drawn (.mapNext (if ml = [] then 1 else ml.length))), w.drew, Nat.mod_lt _ hpos, .inr rfl, ?_⟩
        simp only [choose, Sem.run, hf]
        rfl
    obtain ⟨x, w2, hx1, hx2, hx3⟩ := key
    refine ⟨((if (ml.map (entryOf ek ev)).toArray.isEmpty then #[none] else #[]) ++ ((ml.map (entryOf ek ev)).toArray ++ #[]).map some : Array (Option MapEntry))[x]?, w2, ?_, hx2, ?_⟩
    rotate_left
    · simp only [Instr.next, Sem.run_bind, hg1, hg2, Result.andThen_ok, hguard, Bool.false_eq_true, if_false, hleft, hold, hnew, hsize, hx3]
      rfl
    · rw [hcand]
      by_cases h : ml = []
      · rw [if_pos h] at hx1 ⊢
        exact .inl ⟨h, by simp; omega⟩
      · rw [if_neg h] at hx1 ⊢
        exact .inr ⟨ml[x], List.getElem_mem _, by simp [List.getElem?_eq_getElem hx1]⟩
  obtain ⟨q, w2, h3, h4, h5⟩ := hrun
  have q2' : w2.heap[g]? = some (.mapIter (some b) since seen.toArray last) := by rcases h4 with rfl | rfl <;> exact q2
  rcases h3 with ⟨hq, rfl⟩ | ⟨p, hp', rfl⟩
  · refine ⟨none, w2, fun p hp => Classical.byContradiction fun hn => ?_, h4, ?_⟩
    · have h6 := (hmem p).2 ⟨hp, hn⟩
      rw [hq] at h6
      simp at h6
    · rw [h5]; rfl
  · refine ⟨some p, w2, (hmem p).1 hp', h4, ?_⟩
    have hset : (setObj g (.mapIter (some b) since (seen.toArray.push (entryOf ek ev p).born) c)).run P w2 = .ok () { w2 with heap := w2.heap.setIfInBounds g (.mapIter (some b) since (seen.toArray.push (entryOf ek ev p).born) c) } := by simp [setObj, Sem.run, q2']
    have hpush : seen.toArray.push (entryOf ek ev p).born = (seen ++ [p.2.2]).toArray := by simp [entryOf]
    rw [h5]
    simp only [Sem.run_bind, hset, Sem.run_pure, Result.andThen_ok]
    rw [hpush]
    rfl
end
end Go.Proofs.Ytbjmdnemeidpjaa
/- The shelf's map: keys of a window and a series, cells. -/
namespace Go.Proofs.Ytbjmdnemeidpjaa
set_option linter.unusedSimpArgs false
set_option linter.unusedVariables false
open Go.RowKit
set_option maxRecDepth 100000
abbrev KeyW := Int × ByteArray
abbrev kyR (k : KeyW) : List D := [iD k.1, .v (.string k.2)]
abbrev kyD (k : KeyW) : D := .agg (kyR k)
theorem ky_eqL (a b : KeyW) : eqL [1, 3] (kyR a) (kyR b) = some (decide (b = a)) := by
  have e : eqL [1, 3] (kyR a) (kyR b) = some ((a.1 == b.1) && (a.2 == b.2)) := rfl
  rw [e]
  congr 1
  rw [Bool.eq_iff_iff]
  obtain ⟨a1, a2⟩ := a
  obtain ⟨b1, b2⟩ := b
  simp only [Bool.and_eq_true, MapKept.bytes_beq, beq_iff_eq, decide_eq_true_eq, Prod.mk.injEq]
  exact ⟨fun h => ⟨h.1.symm, h.2.symm⟩, fun h => ⟨h.1.symm, h.2.symm⟩⟩
theorem kyT : KeyT Try.prog 62 kyD := key_flat [1, 3] (by kernel_rfl) ky_eqL
theorem closed_hR : ∀ l : List Int, closedC (hR l) = true
  | [] => rfl
  | z :: l => by
    show closedC (iD z :: hR l) = true
    rw [closedC, closed_hR l]; rfl
theorem closed_cD (c : Cel) : closedD (cD c) = true := by
  show closedC (iD c.n :: iD (hiZ c.s) :: uZ (loZ c.s) :: iD c.mn :: iD c.mx :: iD c.ce :: iD c.po :: hR c.h) = true
  simp only [closedC, closed_hR, Bool.and_true]; rfl
abbrev Sh := Es KeyW Cel
abbrev shO (m : Sh) (c : Nat) : AObj := mapO kyD cD m c
theorem zcell : (Try.prog.info? 29).bind (·.zero) = some (vOf (cD zC)) := by kernel_rfl
/-- A shelf: how many cells at most, its map. -/
abbrev shH (most : Int) (m : Sh) (c : Nat) : List AObj := [.cells [iA most, .mp 1], shO m c]
theorem shNew_ok (most : Int) (h : 1 ≤ most) (h' : most ≤ 1024) : Sat Try.prog 21 [iA most] [] (.tup [.ptr 1 0, iA 0]) [shO [] 0, .cells [iA most, .mp 0]] := by
  refine sat_of_vc (T := tiOf Try.prog) (E := E0) Try.func21 rfl rfl hE0 hm0 rfl ?_
  conv => whnf
  iterate 4
    repeat (any_goals (first
      | exact True.intro
      | (refine And.intro (fun _ => ?_) tf; conv => whnf)
      | (refine And.intro ft (fun _ => ?_); conv => whnf)
      | (refine And.intro (by kernel_rfl) ?_; conv => whnf)
      | (refine And.intro (by decide) ?_; conv => whnf)
      | (refine And.intro (fun _ => ?_) (fun h => absurd h (by decide)); conv => whnf)
      | (refine And.intro (fun h => absurd h (by decide)) (fun _ => ?_); conv => whnf)
      | (refine And.intro (fun _ => ?_) (fun _ => ?_) <;> conv => whnf)
      | (refine ⟨_, _, mp_make (ek := kyD) (ev := cD), ?_⟩; conv => whnf)))
    all_goals try (exfalso; simp only [decide_eq_true_eq, decide_eq_false_iff_not, Bool.not_eq_true', Bool.not_eq_false', Bool.not_eq_true, Bool.not_eq_false, beq_iff_eq, bne_iff_ne, beq_eq_false_iff_ne, bne_eq_false_iff_eq, ne_eq, Decidable.not_not] at *; first | omega | contradiction | (simp_all; done) | (simp_all; omega))
    all_goals try (refine Or.inl ?_; conv => whnf)
  all_goals refine ⟨[], ?_⟩
  repeat (any_goals (first | exact True.intro | exact rfl | with_reducible_and_instances rfl | exact (by kernel_rfl) | refine And.intro ?_ ?_))
  all_goals conv => whnf
theorem shLen_sat (most : Int) (m : Sh) (c : Nat) : Sat Try.prog 57 [.ptr 0 0] (shH most m c) (iA m.length) (shH most m c) := by
  refine sat_of_vc (T := tiOf Try.prog) (E := E0) Try.func57 rfl rfl hE0 hm0 rfl ?_
  conv => whnf
  iterate 3
    repeat (any_goals (first
      | exact True.intro
      | (refine And.intro (fun _ => ?_) tf; conv => whnf)
      | (refine And.intro ft (fun _ => ?_); conv => whnf)
      | (refine And.intro (by kernel_rfl) ?_; conv => whnf)
      | (refine And.intro (by decide) ?_; conv => whnf)
      | (refine And.intro (fun _ => ?_) (fun h => absurd h (by decide)); conv => whnf)
      | (refine And.intro (fun h => absurd h (by decide)) (fun _ => ?_); conv => whnf)
      | (refine And.intro (fun _ => ?_) (fun _ => ?_) <;> conv => whnf)
      | (refine ⟨_, _, mp_len Try.underlying115 rfl, ?_⟩; conv => whnf)))
    all_goals try (refine Or.inl ?_; conv => whnf)
  all_goals refine ⟨[], ?_⟩
  repeat (any_goals (first | exact True.intro | exact rfl | with_reducible_and_instances rfl | exact (by kernel_rfl) | refine And.intro ?_ ?_))
  all_goals conv => whnf
theorem shOf_sat (most : Int) (m : Sh) (c : Nat) (k : KeyW) (hm : ∀ p ∈ m, p.2.1.h.length = 65) : Sat Try.prog 52 [.ptr 0 0, .d (kyD k)] (shH most m c) (.tup [.d (cD ((findX m k).getD zC)), bA (findX m k).isSome]) (shH most m c) := by
  have hl : ((findX m k).getD zC).h.length = 65 := by
    cases h : findX m k with
    | none => rfl
    | some x =>
      unfold findX at h
      obtain ⟨p, hp, rfl⟩ := Option.map_eq_some_iff.1 h
      exact hm p (List.mem_of_find?_eq_some hp)
  refine sat_of_vc (T := tiOf Try.prog) (E := E0) Try.func52 rfl rfl hE0 hm0 rfl ?_
  conv => whnf
  iterate 3
    repeat (any_goals (first
      | exact True.intro
      | (refine ⟨_, drop_id, ?_⟩; conv => whnf)
      | (refine ⟨_, _, at_n, ?_⟩; conv => whnf)
      | (refine ⟨_, _, at_hi, ?_⟩; conv => whnf)
      | (refine ⟨_, _, at_lo, ?_⟩; conv => whnf)
      | (refine ⟨_, _, at_mn, ?_⟩; conv => whnf)
      | (refine ⟨_, _, at_mx, ?_⟩; conv => whnf)
      | (refine ⟨_, _, at_ce, ?_⟩; conv => whnf)
      | (refine ⟨_, _, at_po, ?_⟩; conv => whnf)
      | (refine ⟨_, whole_z sC, clenz sC, ?_⟩; conv => whnf)
      | (refine ⟨_, setzC, ?_⟩; conv => whnf)
      | (refine And.intro (clenz sC) ?_; conv => whnf)
      | (refine And.intro fitzC ?_; conv => whnf)
      | (refine ⟨_, whole_cell sC hl, clen sC hl, ?_⟩; conv => whnf)
      | (refine And.intro (clen sC hl) ?_; conv => whnf)
      | (refine And.intro (fitC hl) ?_; conv => whnf)
      | (refine ⟨_, setC hl, ?_⟩; conv => whnf)
      | (refine ⟨_, whole_z sF, clenz sF, ?_⟩; conv => whnf)
      | (refine ⟨_, setzF, ?_⟩; conv => whnf)
      | (refine And.intro (clenz sF) ?_; conv => whnf)
      | (refine And.intro fitzF ?_; conv => whnf)
      | (refine ⟨_, whole_cell sF hl, clen sF hl, ?_⟩; conv => whnf)
      | (refine And.intro (clen sF hl) ?_; conv => whnf)
      | (refine And.intro (fitF hl) ?_; conv => whnf)
      | (refine ⟨_, setF hl, ?_⟩; conv => whnf)
      | (refine And.intro (fit1 hl (by decide)) ?_; conv => whnf)
      | (refine And.intro (fit1 rfl (by decide)) ?_; conv => whnf)
      | (refine ⟨_, sum_cell s25, rfl, ?_⟩; conv => whnf)
      | (refine ⟨_, set_n _, ?_⟩; conv => whnf)
      | (refine ⟨_, set_mn _, ?_⟩; conv => whnf)
      | (refine ⟨_, set_mx _, ?_⟩; conv => whnf)
      | (refine ⟨_, set_ce _, ?_⟩; conv => whnf)
      | (refine ⟨_, set_po _, ?_⟩; conv => whnf)
      | (refine ⟨_, set_s _, ?_⟩; conv => whnf)
      | (refine ⟨_, set_hi _, ?_⟩; conv => whnf)
      | (refine ⟨_, set_lo _, ?_⟩; conv => whnf)
      | (refine And.intro (fun _ => ?_) tf; conv => whnf)
      | (refine And.intro ft (fun _ => ?_); conv => whnf)
      | (refine And.intro (by kernel_rfl) ?_; conv => whnf)
      | (refine And.intro (by decide) ?_; conv => whnf)
      | (refine And.intro (fun _ => ?_) (fun h => absurd h (by decide)); conv => whnf)
      | (refine And.intro (fun h => absurd h (by decide)) (fun _ => ?_); conv => whnf)
      | (refine And.intro (fun _ => ?_) (fun _ => ?_) <;> conv => whnf)
      | (refine ⟨_, _, mp_looks kyT closed_cD zC Try.underlying115 zcell k rfl, ?_⟩; conv => whnf)))
    all_goals try (refine Or.inl ?_; conv => whnf)
  all_goals refine ⟨[], ?_⟩
  repeat (any_goals (first | exact True.intro | exact rfl | with_reducible_and_instances rfl | exact (by kernel_rfl) | refine And.intro ?_ ?_))
  all_goals conv => whnf
/-- What holds of a shelf's map. -/
structure ShOK (m : Sh) (c : Nat) : Prop where
  ok : ∀ p ∈ m, CelOK p.2.1
  right : ∀ p ∈ m, RightC p.2.1
theorem ShOK.at_ {m : Sh} {c : Nat} (h : ShOK m c) (k : KeyW) : CelOK ((findX m k).getD zC) ∧ RightC ((findX m k).getD zC) := by
  cases h' : findX m k with
  | none => exact ⟨⟨by decide, by decide, by decide, by decide, by decide, by decide, by decide, by decide⟩, right_iff.1 rightC_zC⟩
  | some x =>
    unfold findX at h'
    obtain ⟨p, hp, rfl⟩ := Option.map_eq_some_iff.1 h'
    exact ⟨h.ok p (List.mem_of_find?_eq_some hp), h.right p (List.mem_of_find?_eq_some hp)⟩
/-- Count: a value in a cell. -/
def shCount (m : Sh) (c : Nat) (k : KeyW) (v : Int) : (Sh × Nat) × Int := match findX m k with
  | none => ((m, c), 19)
  | some x => if (addC x v).2 = 0 then ((putX k (addC x v).1 c m, clkX k m c), 0) else ((m, c), (addC x v).2)
section
variable {L : List AObj} {ty n i : Nat} {mx kx : Operand} {m : Sh} {c : Nat} {k : KeyW}
theorem sh_look (hi : L[i]? = some (shO m c)) : Does Try.prog (.lookup 115 mx kx false) ty L n [.mp i, .d (kyD k)] ⟨[i], [], []⟩ (.d (cD ((findX m k).getD zC))) := mp_look kyT closed_cD zC Try.underlying115 zcell k hi
theorem sh_none (hf : findX m k = none) (hi : L[i]? = some (shO m c)) : Does Try.prog (.lookup 115 mx kx true) ty L n [.mp i, .d (kyD k)] ⟨[i], [], []⟩ (.tup [.d (cD zC), bA false]) := by
  have := mp_looks (mx := mx) (kx := kx) (ty := ty) (n := n) kyT closed_cD zC Try.underlying115 zcell k hi
  rw [hf] at this
  exact this
theorem sh_some {x : Cel} (hf : findX m k = some x) (hi : L[i]? = some (shO m c)) : Does Try.prog (.lookup 115 mx kx true) ty L n [.mp i, .d (kyD k)] ⟨[i], [], []⟩ (.tup [.d (cD x), bA true]) := by
  have := mp_looks (mx := mx) (kx := kx) (ty := ty) (n := n) kyT closed_cD zC Try.underlying115 zcell k hi
  rw [hf] at this
  exact this
theorem sh_put {vx : Operand} (x : Cel) (hi : L[i]? = some (shO m c)) : Does Try.prog (.mapUpdate 115 mx kx vx) ty L n [.mp i, .d (kyD k), .d (cD x)] ⟨[i], [(i, shO (putX k x c m) (clkX k m c))], []⟩ .any := mp_put kyT closed_cD Try.underlying115 k x hi
theorem sh_del {kt' : TypeId} (hi : L[i]? = some (shO m c)) : Does Try.prog (.call { callee := .builtin .delete, args := #[mx, kx], argTypes := #[115, kt'] }) ty L n [.mp i, .d (kyD k)] ⟨[i], [(i, shO (delX k m) c)], []⟩ (.tup []) := mp_del kyT Try.underlying115 k hi
theorem sh_len (hi : L[i]? = some (shO m c)) : Does Try.prog (.call { callee := .builtin .len, args := #[mx], argTypes := #[115] }) ty L n [.mp i] ⟨[i], [], []⟩ (.d (.v (.int .i64 m.length))) := mp_len Try.underlying115 hi
end
theorem ShOK.find {m : Sh} {c : Nat} (h : ShOK m c) {k : KeyW} {x : Cel} (hf : findX m k = some x) : CelOK x ∧ RightC x := by
  have := h.at_ k
  rw [hf] at this
  exact this
set_option maxHeartbeats 4000000 in
theorem shCount_sat (most : Int) (m : Sh) (c : Nat) (k : KeyW) (v : Int) (hm : ShOK m c) (hv : in64 v) : Sat Try.prog 23 [.ptr 0 0, .d (kyD k), iA v] (shH most m c) (iA (shCount m c k v).2) (shH most (shCount m c k v).1.1 (shCount m c k v).1.2) := by
  cases hf : findX m k with
  | none =>
    have e : shCount m c k v = ((m, c), 19) := by unfold shCount; rw [hf]
    rw [e]
    refine sat_of_vc (T := tiOf Try.prog) (E := E0) Try.func23 rfl rfl hE0 hm0 rfl ?_
    conv => whnf
    iterate 3
      repeat (any_goals (first
        | exact True.intro
        | (refine ⟨_, drop_id, ?_⟩; conv => whnf)
        | (refine ⟨_, _, at_n, ?_⟩; conv => whnf)
        | (refine ⟨_, _, at_hi, ?_⟩; conv => whnf)
        | (refine ⟨_, _, at_lo, ?_⟩; conv => whnf)
        | (refine ⟨_, _, at_mn, ?_⟩; conv => whnf)
        | (refine ⟨_, _, at_mx, ?_⟩; conv => whnf)
        | (refine ⟨_, _, at_ce, ?_⟩; conv => whnf)
        | (refine ⟨_, _, at_po, ?_⟩; conv => whnf)
        | (refine ⟨_, whole_z sC, clenz sC, ?_⟩; conv => whnf)
        | (refine ⟨_, setzC, ?_⟩; conv => whnf)
        | (refine And.intro (clenz sC) ?_; conv => whnf)
        | (refine And.intro fitzC ?_; conv => whnf)
        | (refine ⟨_, whole_z sF, clenz sF, ?_⟩; conv => whnf)
        | (refine ⟨_, setzF, ?_⟩; conv => whnf)
        | (refine And.intro (clenz sF) ?_; conv => whnf)
        | (refine And.intro fitzF ?_; conv => whnf)
        | (refine And.intro (fit1 rfl (by decide)) ?_; conv => whnf)
        | (refine ⟨_, sum_cell s25, rfl, ?_⟩; conv => whnf)
        | (refine ⟨_, set_n _, ?_⟩; conv => whnf)
        | (refine ⟨_, set_mn _, ?_⟩; conv => whnf)
        | (refine ⟨_, set_mx _, ?_⟩; conv => whnf)
        | (refine ⟨_, set_ce _, ?_⟩; conv => whnf)
        | (refine ⟨_, set_po _, ?_⟩; conv => whnf)
        | (refine ⟨_, set_s _, ?_⟩; conv => whnf)
        | (refine ⟨_, set_hi _, ?_⟩; conv => whnf)
        | (refine ⟨_, set_lo _, ?_⟩; conv => whnf)
        | (refine And.intro (fun _ => ?_) tf; conv => whnf)
        | (refine And.intro ft (fun _ => ?_); conv => whnf)
        | (refine And.intro (by kernel_rfl) ?_; conv => whnf)
        | (refine And.intro (by decide) ?_; conv => whnf)
        | (refine And.intro (fun _ => ?_) (fun h => absurd h (by decide)); conv => whnf)
        | (refine And.intro (fun h => absurd h (by decide)) (fun _ => ?_); conv => whnf)
        | (refine And.intro (fun _ => ?_) (fun _ => ?_) <;> conv => whnf)
        | (refine ⟨_, _, sh_none hf rfl, ?_⟩; conv => whnf)))
      all_goals try (refine Or.inl ?_; conv => whnf)
    all_goals refine ⟨[], ?_⟩
    repeat (any_goals (first | exact True.intro | exact rfl | with_reducible_and_instances rfl | exact (by kernel_rfl) | refine And.intro ?_ ?_))
    all_goals conv => whnf
  | some x =>
    obtain ⟨h1, h2⟩ := hm.find hf
    have hl := h1.hl
    have a1 := add_sat_c x v h1 hv
    have la := (addC_okA (v := v) h1 hv).hl
    by_cases he : (addC x v).2 = 0
    · have e : shCount m c k v = ((putX k (addC x v).1 c m, clkX k m c), 0) := by unfold shCount; rw [hf]; exact if_pos he
      rw [e]
      rw [he] at a1
      generalize (addC x v).1 = A at *
      refine sat_of_vc (T := tiOf Try.prog) (E := E0) Try.func23 rfl rfl hE0 hm0 rfl ?_
      conv => whnf
      iterate 5
        repeat (any_goals (first
          | exact True.intro
          | (refine And.intro (cell_fit la hl) ?_; conv => whnf)
          | (refine ⟨_, cell_sets hl la, ?_⟩; conv => whnf)
          | (refine ⟨_, drop_id, ?_⟩; conv => whnf)
          | (refine ⟨_, _, at_n, ?_⟩; conv => whnf)
          | (refine ⟨_, _, at_hi, ?_⟩; conv => whnf)
          | (refine ⟨_, _, at_lo, ?_⟩; conv => whnf)
          | (refine ⟨_, _, at_mn, ?_⟩; conv => whnf)
          | (refine ⟨_, _, at_mx, ?_⟩; conv => whnf)
          | (refine ⟨_, _, at_ce, ?_⟩; conv => whnf)
          | (refine ⟨_, _, at_po, ?_⟩; conv => whnf)
          | (refine ⟨_, whole_z sC, clenz sC, ?_⟩; conv => whnf)
          | (refine ⟨_, setzC, ?_⟩; conv => whnf)
          | (refine And.intro (clenz sC) ?_; conv => whnf)
          | (refine And.intro fitzC ?_; conv => whnf)
          | (refine ⟨_, whole_cell sC hl, clen sC hl, ?_⟩; conv => whnf)
          | (refine And.intro (clen sC hl) ?_; conv => whnf)
          | (refine And.intro (fitC hl) ?_; conv => whnf)
          | (refine ⟨_, setC hl, ?_⟩; conv => whnf)
          | (refine ⟨_, whole_cell sC la, clen sC la, ?_⟩; conv => whnf)
          | (refine And.intro (clen sC la) ?_; conv => whnf)
          | (refine And.intro (fitC la) ?_; conv => whnf)
          | (refine ⟨_, setC la, ?_⟩; conv => whnf)
          | (refine ⟨_, whole_z sF, clenz sF, ?_⟩; conv => whnf)
          | (refine ⟨_, setzF, ?_⟩; conv => whnf)
          | (refine And.intro (clenz sF) ?_; conv => whnf)
          | (refine And.intro fitzF ?_; conv => whnf)
          | (refine ⟨_, whole_cell sF hl, clen sF hl, ?_⟩; conv => whnf)
          | (refine And.intro (clen sF hl) ?_; conv => whnf)
          | (refine And.intro (fitF hl) ?_; conv => whnf)
          | (refine ⟨_, setF hl, ?_⟩; conv => whnf)
          | (refine ⟨_, whole_cell sF la, clen sF la, ?_⟩; conv => whnf)
          | (refine And.intro (clen sF la) ?_; conv => whnf)
          | (refine And.intro (fitF la) ?_; conv => whnf)
          | (refine ⟨_, setF la, ?_⟩; conv => whnf)
          | (refine And.intro (fit1 hl (by decide)) ?_; conv => whnf)
          | (refine And.intro (fit1 la (by decide)) ?_; conv => whnf)
          | (refine And.intro (fit1 rfl (by decide)) ?_; conv => whnf)
          | (refine ⟨_, sum_cell s25, rfl, ?_⟩; conv => whnf)
          | (refine ⟨_, set_n _, ?_⟩; conv => whnf)
          | (refine ⟨_, set_mn _, ?_⟩; conv => whnf)
          | (refine ⟨_, set_mx _, ?_⟩; conv => whnf)
          | (refine ⟨_, set_ce _, ?_⟩; conv => whnf)
          | (refine ⟨_, set_po _, ?_⟩; conv => whnf)
          | (refine ⟨_, set_s _, ?_⟩; conv => whnf)
          | (refine ⟨_, set_hi _, ?_⟩; conv => whnf)
          | (refine ⟨_, set_lo _, ?_⟩; conv => whnf)
          | (refine And.intro (fun _ => ?_) tf; conv => whnf)
          | (refine And.intro ft (fun _ => ?_); conv => whnf)
          | (refine And.intro (by kernel_rfl) ?_; conv => whnf)
          | (refine And.intro (by decide) ?_; conv => whnf)
          | (refine And.intro (fun _ => ?_) (fun h => absurd h (by decide)); conv => whnf)
          | (refine And.intro (fun h => absurd h (by decide)) (fun _ => ?_); conv => whnf)
          | (refine And.intro (fun _ => ?_) (fun _ => ?_) <;> conv => whnf)
          | (refine ⟨_, _, sh_some hf rfl, ?_⟩; conv => whnf)
          | (refine ⟨_, _, a1.pu rfl rfl, ?_⟩; conv => whnf)
          | (refine ⟨_, _, sh_put A rfl, ?_⟩; conv => whnf)))
        all_goals try (refine Or.inl ?_; conv => whnf)
      all_goals try (exfalso; simp only [decide_eq_true_eq, decide_eq_false_iff_not, Bool.not_eq_true', Bool.not_eq_false', Bool.not_eq_true, Bool.not_eq_false, beq_iff_eq, bne_iff_ne, beq_eq_false_iff_ne, bne_eq_false_iff_eq, ne_eq, Decidable.not_not] at *; first | omega | contradiction | (simp_all; done) | (simp_all; omega))
      all_goals refine ⟨[], ?_⟩
      repeat (any_goals (first | exact True.intro | exact rfl | with_reducible_and_instances rfl | exact (by kernel_rfl) | refine And.intro ?_ ?_))
      all_goals conv => whnf
    · have e : shCount m c k v = ((m, c), (addC x v).2) := by unfold shCount; rw [hf]; exact if_neg he
      rw [e]
      generalize (addC x v).1 = A at *
      generalize (addC x v).2 = ea at *
      refine sat_of_vc (T := tiOf Try.prog) (E := E0) Try.func23 rfl rfl hE0 hm0 rfl ?_
      conv => whnf
      iterate 5
        repeat (any_goals (first
          | exact True.intro
          | (refine And.intro (cell_fit la hl) ?_; conv => whnf)
          | (refine ⟨_, cell_sets hl la, ?_⟩; conv => whnf)
          | (refine ⟨_, drop_id, ?_⟩; conv => whnf)
          | (refine ⟨_, _, at_n, ?_⟩; conv => whnf)
          | (refine ⟨_, _, at_hi, ?_⟩; conv => whnf)
          | (refine ⟨_, _, at_lo, ?_⟩; conv => whnf)
          | (refine ⟨_, _, at_mn, ?_⟩; conv => whnf)
          | (refine ⟨_, _, at_mx, ?_⟩; conv => whnf)
          | (refine ⟨_, _, at_ce, ?_⟩; conv => whnf)
          | (refine ⟨_, _, at_po, ?_⟩; conv => whnf)
          | (refine ⟨_, whole_z sC, clenz sC, ?_⟩; conv => whnf)
          | (refine ⟨_, setzC, ?_⟩; conv => whnf)
          | (refine And.intro (clenz sC) ?_; conv => whnf)
          | (refine And.intro fitzC ?_; conv => whnf)
          | (refine ⟨_, whole_cell sC hl, clen sC hl, ?_⟩; conv => whnf)
          | (refine And.intro (clen sC hl) ?_; conv => whnf)
          | (refine And.intro (fitC hl) ?_; conv => whnf)
          | (refine ⟨_, setC hl, ?_⟩; conv => whnf)
          | (refine ⟨_, whole_cell sC la, clen sC la, ?_⟩; conv => whnf)
          | (refine And.intro (clen sC la) ?_; conv => whnf)
          | (refine And.intro (fitC la) ?_; conv => whnf)
          | (refine ⟨_, setC la, ?_⟩; conv => whnf)
          | (refine ⟨_, whole_z sF, clenz sF, ?_⟩; conv => whnf)
          | (refine ⟨_, setzF, ?_⟩; conv => whnf)
          | (refine And.intro (clenz sF) ?_; conv => whnf)
          | (refine And.intro fitzF ?_; conv => whnf)
          | (refine ⟨_, whole_cell sF hl, clen sF hl, ?_⟩; conv => whnf)
          | (refine And.intro (clen sF hl) ?_; conv => whnf)
          | (refine And.intro (fitF hl) ?_; conv => whnf)
          | (refine ⟨_, setF hl, ?_⟩; conv => whnf)
          | (refine ⟨_, whole_cell sF la, clen sF la, ?_⟩; conv => whnf)
          | (refine And.intro (clen sF la) ?_; conv => whnf)
          | (refine And.intro (fitF la) ?_; conv => whnf)
          | (refine ⟨_, setF la, ?_⟩; conv => whnf)
          | (refine And.intro (fit1 hl (by decide)) ?_; conv => whnf)
          | (refine And.intro (fit1 la (by decide)) ?_; conv => whnf)
          | (refine And.intro (fit1 rfl (by decide)) ?_; conv => whnf)
          | (refine ⟨_, sum_cell s25, rfl, ?_⟩; conv => whnf)
          | (refine ⟨_, set_n _, ?_⟩; conv => whnf)
          | (refine ⟨_, set_mn _, ?_⟩; conv => whnf)
          | (refine ⟨_, set_mx _, ?_⟩; conv => whnf)
          | (refine ⟨_, set_ce _, ?_⟩; conv => whnf)
          | (refine ⟨_, set_po _, ?_⟩; conv => whnf)
          | (refine ⟨_, set_s _, ?_⟩; conv => whnf)
          | (refine ⟨_, set_hi _, ?_⟩; conv => whnf)
          | (refine ⟨_, set_lo _, ?_⟩; conv => whnf)
          | (refine And.intro (fun _ => ?_) tf; conv => whnf)
          | (refine And.intro ft (fun _ => ?_); conv => whnf)
          | (refine And.intro (by kernel_rfl) ?_; conv => whnf)
          | (refine And.intro (by decide) ?_; conv => whnf)
          | (refine And.intro (fun _ => ?_) (fun h => absurd h (by decide)); conv => whnf)
          | (refine And.intro (fun h => absurd h (by decide)) (fun _ => ?_); conv => whnf)
          | (refine And.intro (fun _ => ?_) (fun _ => ?_) <;> conv => whnf)
          | (refine ⟨_, _, sh_some hf rfl, ?_⟩; conv => whnf)
          | (refine ⟨_, _, a1.pu rfl rfl, ?_⟩; conv => whnf)))
        all_goals try (refine Or.inl ?_; conv => whnf)
      all_goals try (exfalso; simp only [decide_eq_true_eq, decide_eq_false_iff_not, Bool.not_eq_true', Bool.not_eq_false', Bool.not_eq_true, Bool.not_eq_false, beq_iff_eq, bne_iff_ne, beq_eq_false_iff_ne, bne_eq_false_iff_eq, ne_eq, Decidable.not_not] at *; first | omega | contradiction | (simp_all; done) | (simp_all; omega))
      all_goals refine ⟨[], ?_⟩
      repeat (any_goals (first | exact True.intro | exact rfl | with_reducible_and_instances rfl | exact (by kernel_rfl) | refine And.intro ?_ ?_))
      all_goals conv => whnf
end Go.Proofs.Ytbjmdnemeidpjaa
/- The shelf: Set, Room. -/
namespace Go.Proofs.Ytbjmdnemeidpjaa
set_option linter.unusedSimpArgs false
set_option linter.unusedVariables false
open Go.RowKit
set_option maxRecDepth 100000
def shSet (most : Int) (m : Sh) (c : Nat) (k : KeyW) (x : Cel) : (Sh × Nat) × Int := if (findX m k).isSome then ((m, c), 18) else if rightC x = false then ((m, c), 10) else
  if most ≤ m.length then ((m, c), 20) else ((putX k x c m, clkX k m c), 0)
set_option maxHeartbeats 4000000 in
theorem shSet_sat (most : Int) (m : Sh) (c : Nat) (k : KeyW) (x : Cel) (hm : ShOK m c) (hx : CelOK x) : Sat Try.prog 56 [.ptr 0 0, .d (kyD k), .d (cD x)] (shH most m c) (iA (shSet most m c k x).2) (shH most (shSet most m c k x).1.1 (shSet most m c k x).1.2) := by
  have hl := hx.hl
  have r1 := right_sat_c x hx
  cases hf : findX m k with
  | some y =>
    have hy := (hm.find hf).1.hl
    have e : shSet most m c k x = ((m, c), 18) := by unfold shSet; rw [hf]; rfl
    rw [e]
    refine sat_of_vc (T := tiOf Try.prog) (E := E0) Try.func56 rfl rfl hE0 hm0 rfl ?_
    conv => whnf
    iterate 4
      repeat (any_goals (first
        | exact True.intro
        | (refine ⟨_, drop_id, ?_⟩; conv => whnf)
        | (refine ⟨_, _, at_n, ?_⟩; conv => whnf)
        | (refine ⟨_, _, at_hi, ?_⟩; conv => whnf)
        | (refine ⟨_, _, at_lo, ?_⟩; conv => whnf)
        | (refine ⟨_, _, at_mn, ?_⟩; conv => whnf)
        | (refine ⟨_, _, at_mx, ?_⟩; conv => whnf)
        | (refine ⟨_, _, at_ce, ?_⟩; conv => whnf)
        | (refine ⟨_, _, at_po, ?_⟩; conv => whnf)
        | (refine ⟨_, whole_z sC, clenz sC, ?_⟩; conv => whnf)
        | (refine ⟨_, setzC, ?_⟩; conv => whnf)
        | (refine And.intro (clenz sC) ?_; conv => whnf)
        | (refine And.intro fitzC ?_; conv => whnf)
        | (refine ⟨_, whole_cell sC hl, clen sC hl, ?_⟩; conv => whnf)
        | (refine And.intro (clen sC hl) ?_; conv => whnf)
        | (refine And.intro (fitC hl) ?_; conv => whnf)
        | (refine ⟨_, setC hl, ?_⟩; conv => whnf)
        | (refine ⟨_, whole_cell sC hy, clen sC hy, ?_⟩; conv => whnf)
        | (refine And.intro (clen sC hy) ?_; conv => whnf)
        | (refine And.intro (fitC hy) ?_; conv => whnf)
        | (refine ⟨_, setC hy, ?_⟩; conv => whnf)
        | (refine ⟨_, whole_z sF, clenz sF, ?_⟩; conv => whnf)
        | (refine ⟨_, setzF, ?_⟩; conv => whnf)
        | (refine And.intro (clenz sF) ?_; conv => whnf)
        | (refine And.intro fitzF ?_; conv => whnf)
        | (refine ⟨_, whole_cell sF hl, clen sF hl, ?_⟩; conv => whnf)
        | (refine And.intro (clen sF hl) ?_; conv => whnf)
        | (refine And.intro (fitF hl) ?_; conv => whnf)
        | (refine ⟨_, setF hl, ?_⟩; conv => whnf)
        | (refine ⟨_, whole_cell sF hy, clen sF hy, ?_⟩; conv => whnf)
        | (refine And.intro (clen sF hy) ?_; conv => whnf)
        | (refine And.intro (fitF hy) ?_; conv => whnf)
        | (refine ⟨_, setF hy, ?_⟩; conv => whnf)
        | (refine And.intro (fit1 hl (by decide)) ?_; conv => whnf)
        | (refine And.intro (fit1 hy (by decide)) ?_; conv => whnf)
        | (refine And.intro (fit1 rfl (by decide)) ?_; conv => whnf)
        | (refine ⟨_, sum_cell s25, rfl, ?_⟩; conv => whnf)
        | (refine ⟨_, set_n _, ?_⟩; conv => whnf)
        | (refine ⟨_, set_mn _, ?_⟩; conv => whnf)
        | (refine ⟨_, set_mx _, ?_⟩; conv => whnf)
        | (refine ⟨_, set_ce _, ?_⟩; conv => whnf)
        | (refine ⟨_, set_po _, ?_⟩; conv => whnf)
        | (refine ⟨_, set_s _, ?_⟩; conv => whnf)
        | (refine ⟨_, set_hi _, ?_⟩; conv => whnf)
        | (refine ⟨_, set_lo _, ?_⟩; conv => whnf)
        | (refine And.intro (fun _ => ?_) tf; conv => whnf)
        | (refine And.intro ft (fun _ => ?_); conv => whnf)
        | (refine And.intro (by kernel_rfl) ?_; conv => whnf)
        | (refine And.intro (by decide) ?_; conv => whnf)
        | (refine And.intro (fun _ => ?_) (fun h => absurd h (by decide)); conv => whnf)
        | (refine And.intro (fun h => absurd h (by decide)) (fun _ => ?_); conv => whnf)
        | (refine And.intro (fun _ => ?_) (fun _ => ?_) <;> conv => whnf)
        | (refine ⟨_, _, sh_some hf rfl, ?_⟩; conv => whnf)))
      all_goals try (refine Or.inl ?_; conv => whnf)
    all_goals refine ⟨[], ?_⟩
    repeat (any_goals (first | exact True.intro | exact rfl | with_reducible_and_instances rfl | exact (by kernel_rfl) | refine And.intro ?_ ?_))
    all_goals conv => whnf
  | none =>
    by_cases hr : rightC x = true
    case neg =>
      have hr : rightC x = false := by simpa using hr
      have e : shSet most m c k x = ((m, c), 10) := by unfold shSet; rw [hf, hr]; rfl
      rw [e]
      rw [hr] at r1
      refine sat_of_vc (T := tiOf Try.prog) (E := E0) Try.func56 rfl rfl hE0 hm0 rfl ?_
      conv => whnf
      iterate 4
        repeat (any_goals (first
          | exact True.intro
          | (refine ⟨_, drop_id, ?_⟩; conv => whnf)
          | (refine ⟨_, _, at_n, ?_⟩; conv => whnf)
          | (refine ⟨_, _, at_hi, ?_⟩; conv => whnf)
          | (refine ⟨_, _, at_lo, ?_⟩; conv => whnf)
          | (refine ⟨_, _, at_mn, ?_⟩; conv => whnf)
          | (refine ⟨_, _, at_mx, ?_⟩; conv => whnf)
          | (refine ⟨_, _, at_ce, ?_⟩; conv => whnf)
          | (refine ⟨_, _, at_po, ?_⟩; conv => whnf)
          | (refine ⟨_, whole_z sC, clenz sC, ?_⟩; conv => whnf)
          | (refine ⟨_, setzC, ?_⟩; conv => whnf)
          | (refine And.intro (clenz sC) ?_; conv => whnf)
          | (refine And.intro fitzC ?_; conv => whnf)
          | (refine ⟨_, whole_cell sC hl, clen sC hl, ?_⟩; conv => whnf)
          | (refine And.intro (clen sC hl) ?_; conv => whnf)
          | (refine And.intro (fitC hl) ?_; conv => whnf)
          | (refine ⟨_, setC hl, ?_⟩; conv => whnf)
          | (refine ⟨_, whole_z sF, clenz sF, ?_⟩; conv => whnf)
          | (refine ⟨_, setzF, ?_⟩; conv => whnf)
          | (refine And.intro (clenz sF) ?_; conv => whnf)
          | (refine And.intro fitzF ?_; conv => whnf)
          | (refine ⟨_, whole_cell sF hl, clen sF hl, ?_⟩; conv => whnf)
          | (refine And.intro (clen sF hl) ?_; conv => whnf)
          | (refine And.intro (fitF hl) ?_; conv => whnf)
          | (refine ⟨_, setF hl, ?_⟩; conv => whnf)
          | (refine And.intro (fit1 hl (by decide)) ?_; conv => whnf)
          | (refine And.intro (fit1 rfl (by decide)) ?_; conv => whnf)
          | (refine ⟨_, sum_cell s25, rfl, ?_⟩; conv => whnf)
          | (refine ⟨_, set_n _, ?_⟩; conv => whnf)
          | (refine ⟨_, set_mn _, ?_⟩; conv => whnf)
          | (refine ⟨_, set_mx _, ?_⟩; conv => whnf)
          | (refine ⟨_, set_ce _, ?_⟩; conv => whnf)
          | (refine ⟨_, set_po _, ?_⟩; conv => whnf)
          | (refine ⟨_, set_s _, ?_⟩; conv => whnf)
          | (refine ⟨_, set_hi _, ?_⟩; conv => whnf)
          | (refine ⟨_, set_lo _, ?_⟩; conv => whnf)
          | (refine And.intro (fun _ => ?_) tf; conv => whnf)
          | (refine And.intro ft (fun _ => ?_); conv => whnf)
          | (refine And.intro (by kernel_rfl) ?_; conv => whnf)
          | (refine And.intro (by decide) ?_; conv => whnf)
          | (refine And.intro (fun _ => ?_) (fun h => absurd h (by decide)); conv => whnf)
          | (refine And.intro (fun h => absurd h (by decide)) (fun _ => ?_); conv => whnf)
          | (refine And.intro (fun _ => ?_) (fun _ => ?_) <;> conv => whnf)
          | (refine ⟨_, _, sh_none hf rfl, ?_⟩; conv => whnf)
          | (refine ⟨_, _, r1.pu rfl rfl, ?_⟩; conv => whnf)))
        all_goals try (refine Or.inl ?_; conv => whnf)
      all_goals refine ⟨[], ?_⟩
      repeat (any_goals (first | exact True.intro | exact rfl | with_reducible_and_instances rfl | exact (by kernel_rfl) | refine And.intro ?_ ?_))
      all_goals conv => whnf
    rw [hr] at r1
    by_cases hn : most ≤ m.length
    · have e : shSet most m c k x = ((m, c), 20) := by unfold shSet; rw [hf, hr]; exact if_pos hn
      rw [e]
      refine sat_of_vc (T := tiOf Try.prog) (E := E0) Try.func56 rfl rfl hE0 hm0 rfl ?_
      conv => whnf
      iterate 5
        repeat (any_goals (first
          | exact True.intro
          | (refine ⟨_, drop_id, ?_⟩; conv => whnf)
          | (refine ⟨_, _, at_n, ?_⟩; conv => whnf)
          | (refine ⟨_, _, at_hi, ?_⟩; conv => whnf)
          | (refine ⟨_, _, at_lo, ?_⟩; conv => whnf)
          | (refine ⟨_, _, at_mn, ?_⟩; conv => whnf)
          | (refine ⟨_, _, at_mx, ?_⟩; conv => whnf)
          | (refine ⟨_, _, at_ce, ?_⟩; conv => whnf)
          | (refine ⟨_, _, at_po, ?_⟩; conv => whnf)
          | (refine ⟨_, whole_z sC, clenz sC, ?_⟩; conv => whnf)
          | (refine ⟨_, setzC, ?_⟩; conv => whnf)
          | (refine And.intro (clenz sC) ?_; conv => whnf)
          | (refine And.intro fitzC ?_; conv => whnf)
          | (refine ⟨_, whole_cell sC hl, clen sC hl, ?_⟩; conv => whnf)
          | (refine And.intro (clen sC hl) ?_; conv => whnf)
          | (refine And.intro (fitC hl) ?_; conv => whnf)
          | (refine ⟨_, setC hl, ?_⟩; conv => whnf)
          | (refine ⟨_, whole_z sF, clenz sF, ?_⟩; conv => whnf)
          | (refine ⟨_, setzF, ?_⟩; conv => whnf)
          | (refine And.intro (clenz sF) ?_; conv => whnf)
          | (refine And.intro fitzF ?_; conv => whnf)
          | (refine ⟨_, whole_cell sF hl, clen sF hl, ?_⟩; conv => whnf)
          | (refine And.intro (clen sF hl) ?_; conv => whnf)
          | (refine And.intro (fitF hl) ?_; conv => whnf)
          | (refine ⟨_, setF hl, ?_⟩; conv => whnf)
          | (refine And.intro (fit1 hl (by decide)) ?_; conv => whnf)
          | (refine And.intro (fit1 rfl (by decide)) ?_; conv => whnf)
          | (refine ⟨_, sum_cell s25, rfl, ?_⟩; conv => whnf)
          | (refine ⟨_, set_n _, ?_⟩; conv => whnf)
          | (refine ⟨_, set_mn _, ?_⟩; conv => whnf)
          | (refine ⟨_, set_mx _, ?_⟩; conv => whnf)
          | (refine ⟨_, set_ce _, ?_⟩; conv => whnf)
          | (refine ⟨_, set_po _, ?_⟩; conv => whnf)
          | (refine ⟨_, set_s _, ?_⟩; conv => whnf)
          | (refine ⟨_, set_hi _, ?_⟩; conv => whnf)
          | (refine ⟨_, set_lo _, ?_⟩; conv => whnf)
          | (refine And.intro (fun _ => ?_) tf; conv => whnf)
          | (refine And.intro ft (fun _ => ?_); conv => whnf)
          | (refine And.intro (by kernel_rfl) ?_; conv => whnf)
          | (refine And.intro (by decide) ?_; conv => whnf)
          | (refine And.intro (fun _ => ?_) (fun h => absurd h (by decide)); conv => whnf)
          | (refine And.intro (fun h => absurd h (by decide)) (fun _ => ?_); conv => whnf)
          | (refine And.intro (fun _ => ?_) (fun _ => ?_) <;> conv => whnf)
          | (refine ⟨_, _, sh_none hf rfl, ?_⟩; conv => whnf)
          | (refine ⟨_, _, r1.pu rfl rfl, ?_⟩; conv => whnf)
          | (refine ⟨_, _, sh_len rfl, ?_⟩; conv => whnf)
          | (refine ⟨_, _, sh_put x rfl, ?_⟩; conv => whnf)))
        all_goals try (exfalso; simp only [decide_eq_true_eq, decide_eq_false_iff_not, Bool.not_eq_true', Bool.not_eq_false', Bool.not_eq_true, Bool.not_eq_false, beq_iff_eq, bne_iff_ne, beq_eq_false_iff_ne, bne_eq_false_iff_eq, ne_eq, Decidable.not_not] at *; first | omega | contradiction | (simp_all; done) | (simp_all; omega))
        all_goals try (refine Or.inl ?_; conv => whnf)
      all_goals refine ⟨[], ?_⟩
      repeat (any_goals (first | exact True.intro | exact rfl | with_reducible_and_instances rfl | exact (by kernel_rfl) | refine And.intro ?_ ?_))
      all_goals conv => whnf
    · have e : shSet most m c k x = ((putX k x c m, clkX k m c), 0) := by unfold shSet; rw [hf, hr]; exact if_neg hn
      rw [e]
      refine sat_of_vc (T := tiOf Try.prog) (E := E0) Try.func56 rfl rfl hE0 hm0 rfl ?_
      conv => whnf
      iterate 5
        repeat (any_goals (first
          | exact True.intro
          | (refine ⟨_, drop_id, ?_⟩; conv => whnf)
          | (refine ⟨_, _, at_n, ?_⟩; conv => whnf)
          | (refine ⟨_, _, at_hi, ?_⟩; conv => whnf)
          | (refine ⟨_, _, at_lo, ?_⟩; conv => whnf)
          | (refine ⟨_, _, at_mn, ?_⟩; conv => whnf)
          | (refine ⟨_, _, at_mx, ?_⟩; conv => whnf)
          | (refine ⟨_, _, at_ce, ?_⟩; conv => whnf)
          | (refine ⟨_, _, at_po, ?_⟩; conv => whnf)
          | (refine ⟨_, whole_z sC, clenz sC, ?_⟩; conv => whnf)
          | (refine ⟨_, setzC, ?_⟩; conv => whnf)
          | (refine And.intro (clenz sC) ?_; conv => whnf)
          | (refine And.intro fitzC ?_; conv => whnf)
          | (refine ⟨_, whole_cell sC hl, clen sC hl, ?_⟩; conv => whnf)
          | (refine And.intro (clen sC hl) ?_; conv => whnf)
          | (refine And.intro (fitC hl) ?_; conv => whnf)
          | (refine ⟨_, setC hl, ?_⟩; conv => whnf)
          | (refine ⟨_, whole_z sF, clenz sF, ?_⟩; conv => whnf)
          | (refine ⟨_, setzF, ?_⟩; conv => whnf)
          | (refine And.intro (clenz sF) ?_; conv => whnf)
          | (refine And.intro fitzF ?_; conv => whnf)
          | (refine ⟨_, whole_cell sF hl, clen sF hl, ?_⟩; conv => whnf)
          | (refine And.intro (clen sF hl) ?_; conv => whnf)
          | (refine And.intro (fitF hl) ?_; conv => whnf)
          | (refine ⟨_, setF hl, ?_⟩; conv => whnf)
          | (refine And.intro (fit1 hl (by decide)) ?_; conv => whnf)
          | (refine And.intro (fit1 rfl (by decide)) ?_; conv => whnf)
          | (refine ⟨_, sum_cell s25, rfl, ?_⟩; conv => whnf)
          | (refine ⟨_, set_n _, ?_⟩; conv => whnf)
          | (refine ⟨_, set_mn _, ?_⟩; conv => whnf)
          | (refine ⟨_, set_mx _, ?_⟩; conv => whnf)
          | (refine ⟨_, set_ce _, ?_⟩; conv => whnf)
          | (refine ⟨_, set_po _, ?_⟩; conv => whnf)
          | (refine ⟨_, set_s _, ?_⟩; conv => whnf)
          | (refine ⟨_, set_hi _, ?_⟩; conv => whnf)
          | (refine ⟨_, set_lo _, ?_⟩; conv => whnf)
          | (refine And.intro (fun _ => ?_) tf; conv => whnf)
          | (refine And.intro ft (fun _ => ?_); conv => whnf)
          | (refine And.intro (by kernel_rfl) ?_; conv => whnf)
          | (refine And.intro (by decide) ?_; conv => whnf)
          | (refine And.intro (fun _ => ?_) (fun h => absurd h (by decide)); conv => whnf)
          | (refine And.intro (fun h => absurd h (by decide)) (fun _ => ?_); conv => whnf)
          | (refine And.intro (fun _ => ?_) (fun _ => ?_) <;> conv => whnf)
          | (refine ⟨_, _, sh_none hf rfl, ?_⟩; conv => whnf)
          | (refine ⟨_, _, r1.pu rfl rfl, ?_⟩; conv => whnf)
          | (refine ⟨_, _, sh_len rfl, ?_⟩; conv => whnf)
          | (refine ⟨_, _, sh_put x rfl, ?_⟩; conv => whnf)))
        all_goals try (exfalso; simp only [decide_eq_true_eq, decide_eq_false_iff_not, Bool.not_eq_true', Bool.not_eq_false', Bool.not_eq_true, Bool.not_eq_false, beq_iff_eq, bne_iff_ne, beq_eq_false_iff_ne, bne_eq_false_iff_eq, ne_eq, Decidable.not_not] at *; first | omega | contradiction | (simp_all; done) | (simp_all; omega))
        all_goals try (refine Or.inl ?_; conv => whnf)
      all_goals refine ⟨[], ?_⟩
      repeat (any_goals (first | exact True.intro | exact rfl | with_reducible_and_instances rfl | exact (by kernel_rfl) | refine And.intro ?_ ?_))
      all_goals conv => whnf
theorem bno {a : Bool} (h : a = true) (q : a = false) : False := by rw [h] at q; exact Bool.noConfusion q
/-- How many of the windows from first on have no cell yet. -/
def lackN (m : Sh) (first : Int) (s : ByteArray) (n : Nat) : Nat := (List.range n).countP fun (j : Nat) => (findX m (first + (j : Int), s)).isNone
theorem lackN_succ (m : Sh) (first : Int) (s : ByteArray) (n : Nat) : lackN m first s (n + 1) = lackN m first s n + if (findX m (first + (n : Int), s)).isNone then 1 else 0 := by
  unfold lackN
  rw [List.range_succ, List.countP_append, List.countP_cons, List.countP_nil]
  simp
theorem lackN_le (m : Sh) (first : Int) (s : ByteArray) (n : Nat) : lackN m first s n ≤ n := by
  unfold lackN
  have := List.countP_le_length (p := fun (j : Nat) => (findX m (first + (j : Int), s)).isNone) (l := List.range n)
  simpa using this
def shRoom (most : Int) (m : Sh) (first last : Int) (s : ByteArray) : Bool := if last < first then false else if most ≤ last - first then false else decide (((m.length + lackN m first s ((last - first).toNat + 1) : Nat) : Int) ≤ most)
set_option maxHeartbeats 8000000 in
theorem shRoom_sat (most : Int) (m : Sh) (c : Nat) (first last : Int) (s : ByteArray) (hm : ShOK m c) (h1 : in64 first) (h2 : in64 last) (hmo : 1 ≤ most ∧ most ≤ 1024) (hlen : m.length ≤ 100000) :
    Sat Try.prog 53 [.ptr 0 0, iA first, iA last, .d (.v (.string s))] (shH most m c) (bA (shRoom most m first last s)) (shH most m c) := by
  by_cases g1 : last < first
  · have e : shRoom most m first last s = false := by unfold shRoom; rw [if_pos g1]
    rw [e]
    refine sat_of_vc (T := tiOf Try.prog) (E := E0) Try.func53 rfl rfl hE0 hm0 rfl ?_
    conv => whnf
    iterate 3
      repeat (any_goals (first
        | exact True.intro
        | (refine And.intro (fun _ => ?_) tf; conv => whnf)
        | (refine And.intro ft (fun _ => ?_); conv => whnf)
        | (refine And.intro (by kernel_rfl) ?_; conv => whnf)
        | (refine And.intro (by decide) ?_; conv => whnf)
        | (refine And.intro (fun _ => ?_) (fun h => absurd h (by decide)); conv => whnf)
        | (refine And.intro (fun h => absurd h (by decide)) (fun _ => ?_); conv => whnf)
        | (refine And.intro (fun _ => ?_) (fun _ => ?_) <;> conv => whnf)))
      all_goals try (exfalso; simp only [decide_eq_true_eq, decide_eq_false_iff_not, Bool.not_eq_true', Bool.not_eq_false', Bool.not_eq_true, Bool.not_eq_false, beq_iff_eq, bne_iff_ne, beq_eq_false_iff_ne, bne_eq_false_iff_eq, ne_eq, Decidable.not_not] at *; first | omega | contradiction | (simp_all; done) | (simp_all; omega))
      all_goals try (refine Or.inl ?_; conv => whnf)
    all_goals refine ⟨[], ?_⟩
    repeat (any_goals (first | exact True.intro | exact rfl | with_reducible_and_instances rfl | exact (by kernel_rfl) | refine And.intro ?_ ?_))
    all_goals conv => whnf
  have w1 : IntKind.u64.wrap (IntKind.u64.wrap last - IntKind.u64.wrap first) = last - first := by
    unfold in64 at h1 h2
    rw [IntKind.wrap_u64, IntKind.wrap_u64, IntKind.wrap_u64]; omega
  have w2 : IntKind.u64.wrap most = most := by rw [IntKind.wrap_u64]; omega
  have hd : decide (IntKind.u64.wrap (IntKind.u64.wrap last - IntKind.u64.wrap first) ≥ IntKind.u64.wrap most) = decide (most ≤ last - first) := by rw [w1, w2]
  by_cases g2 : most ≤ last - first
  · have e : shRoom most m first last s = false := by unfold shRoom; rw [if_neg g1, if_pos g2]
    rw [e]
    refine sat_of_vc (T := tiOf Try.prog) (E := E0) Try.func53 rfl rfl hE0 hm0 rfl ?_
    conv => whnf
    iterate 3
      repeat (any_goals (first
        | exact True.intro
        | (refine And.intro (fun _ => ?_) tf; conv => whnf)
        | (refine And.intro ft (fun _ => ?_); conv => whnf)
        | (refine And.intro (by kernel_rfl) ?_; conv => whnf)
        | (refine And.intro (by decide) ?_; conv => whnf)
        | (refine And.intro (fun _ => ?_) (fun h => absurd h (by decide)); conv => whnf)
        | (refine And.intro (fun h => absurd h (by decide)) (fun _ => ?_); conv => whnf)
        | (refine And.intro (fun _ => ?_) (fun _ => ?_) <;> conv => whnf)
        | (refine ⟨_, _, sh_len rfl, ?_⟩; conv => whnf)))
      all_goals try (refine Or.inl ?_; conv => whnf)
    all_goals try exact (bno (hd.trans (decide_eq_true g2)) ‹_›).elim
    all_goals refine ⟨[], ?_⟩
    repeat (any_goals (first | exact True.intro | exact rfl | with_reducible_and_instances rfl | exact (by kernel_rfl) | refine And.intro ?_ ?_))
    all_goals conv => whnf
  obtain ⟨n, hn⟩ : ∃ n : Nat, last - first = n := ⟨(last - first).toNat, by omega⟩
  have e : shRoom most m first last s = decide (((m.length + lackN m first s (n + 1) : Nat) : Int) ≤ most) := by
    unfold shRoom
    rw [if_neg g1, if_neg g2, hn]; rfl
  rw [e]
  refine sat_of_vc (T := tiOf Try.prog) (E := E0) Try.func53 rfl rfl hE0 hm0 rfl ?_
  conv => whnf
  iterate 3
    repeat (any_goals (first
      | exact True.intro
      | (refine And.intro (fun _ => ?_) tf; conv => whnf)
      | (refine And.intro ft (fun _ => ?_); conv => whnf)
      | (refine And.intro (by kernel_rfl) ?_; conv => whnf)
      | (refine And.intro (by decide) ?_; conv => whnf)
      | (refine And.intro (fun _ => ?_) (fun h => absurd h (by decide)); conv => whnf)
      | (refine And.intro (fun h => absurd h (by decide)) (fun _ => ?_); conv => whnf)
      | (refine And.intro (fun _ => ?_) (fun _ => ?_) <;> conv => whnf)
      | (refine ⟨_, _, sh_len rfl, ?_⟩; conv => whnf)))
    all_goals try (refine Or.inl ?_; conv => whnf)
  all_goals try exact (bno ‹decide (first > last) = true› (decide_eq_false (show ¬ first > last by omega))).elim
  all_goals try exact (bno ‹_› (hd.trans (decide_eq_false g2))).elim
  refine ⟨Nat, fun i => i ≤ n + 1, fun i => ([(37, iA i), (36, iA (n + 1 : Nat)), (10, iA (m.length + lackN m first s i : Nat)), (0, .ptr 0 0), (1, iA first), (3, .d (.v (.string s)))], shH most m c), fun i => n + 1 - i, ⟨0, Nat.zero_le _, ?_⟩, ?_⟩
  · all_goals refine ⟨[], ?_⟩
    repeat (any_goals (first | exact True.intro | exact rfl | with_reducible_and_instances rfl | exact (by kernel_rfl) | refine And.intro ?_ ?_))
    all_goals conv => whnf
    show iA (IntKind.i64.wrap (IntKind.i64.wrap (IntKind.u64.wrap (IntKind.u64.wrap last - IntKind.u64.wrap first)) + 1)) = iA (n + 1 : Nat)
    rw [w1, hn, wi (n := (n : Int)) (by omega) (by omega), wi (by omega) (by omega)]; rfl
  intro i hi
  have hi : i ≤ n + 1 := hi
  have hsn := lackN_succ m first s i
  have hle := lackN_le m first s i
  conv => whnf
  by_cases hlt : i < n + 1
  · have wf : IntKind.i64.wrap (first + (i : Int)) = first + i := wi (by unfold in64 at h1; omega) (by unfold in64 at h2; omega)
    rw [← wf] at hsn
    cases hf : findX m (IntKind.i64.wrap (first + (i : Int)), s) with
    | none =>
      rw [hf] at hsn
      have hsn : lackN m first s (i + 1) = lackN m first s i + 1 := hsn
      iterate 5
        repeat (any_goals (first
          | exact True.intro
          | (refine ⟨_, drop_id, ?_⟩; conv => whnf)
          | (refine ⟨_, _, at_n, ?_⟩; conv => whnf)
          | (refine ⟨_, _, at_hi, ?_⟩; conv => whnf)
          | (refine ⟨_, _, at_lo, ?_⟩; conv => whnf)
          | (refine ⟨_, _, at_mn, ?_⟩; conv => whnf)
          | (refine ⟨_, _, at_mx, ?_⟩; conv => whnf)
          | (refine ⟨_, _, at_ce, ?_⟩; conv => whnf)
          | (refine ⟨_, _, at_po, ?_⟩; conv => whnf)
          | (refine ⟨_, whole_z sC, clenz sC, ?_⟩; conv => whnf)
          | (refine ⟨_, setzC, ?_⟩; conv => whnf)
          | (refine And.intro (clenz sC) ?_; conv => whnf)
          | (refine And.intro fitzC ?_; conv => whnf)
          | (refine ⟨_, whole_z sF, clenz sF, ?_⟩; conv => whnf)
          | (refine ⟨_, setzF, ?_⟩; conv => whnf)
          | (refine And.intro (clenz sF) ?_; conv => whnf)
          | (refine And.intro fitzF ?_; conv => whnf)
          | (refine And.intro (fit1 rfl (by decide)) ?_; conv => whnf)
          | (refine ⟨_, sum_cell s25, rfl, ?_⟩; conv => whnf)
          | (refine ⟨_, set_n _, ?_⟩; conv => whnf)
          | (refine ⟨_, set_mn _, ?_⟩; conv => whnf)
          | (refine ⟨_, set_mx _, ?_⟩; conv => whnf)
          | (refine ⟨_, set_ce _, ?_⟩; conv => whnf)
          | (refine ⟨_, set_po _, ?_⟩; conv => whnf)
          | (refine ⟨_, set_s _, ?_⟩; conv => whnf)
          | (refine ⟨_, set_hi _, ?_⟩; conv => whnf)
          | (refine ⟨_, set_lo _, ?_⟩; conv => whnf)
          | (refine And.intro (fun _ => ?_) tf; conv => whnf)
          | (refine And.intro ft (fun _ => ?_); conv => whnf)
          | (refine And.intro (by kernel_rfl) ?_; conv => whnf)
          | (refine And.intro (by decide) ?_; conv => whnf)
          | (refine And.intro (fun _ => ?_) (fun h => absurd h (by decide)); conv => whnf)
          | (refine And.intro (fun h => absurd h (by decide)) (fun _ => ?_); conv => whnf)
          | (refine And.intro (fun _ => ?_) (fun _ => ?_) <;> conv => whnf)
          | (refine ⟨_, _, sh_none hf rfl, ?_⟩; conv => whnf)))
        all_goals try (refine Or.inl ?_; conv => whnf)
      all_goals try exact (bno (decide_eq_true (show (i : Int) < ((n + 1 : Nat) : Int) by omega)) ‹_›).elim
      all_goals try (exfalso; simp only [decide_eq_true_eq, decide_eq_false_iff_not, Bool.not_eq_true', Bool.not_eq_false', Bool.not_eq_true, Bool.not_eq_false, beq_iff_eq, bne_iff_ne, beq_eq_false_iff_ne, bne_eq_false_iff_eq, ne_eq, Decidable.not_not] at *; first | omega | contradiction | (simp_all; done) | (simp_all; omega))
      refine ⟨i + 1, hlt, show n + 1 - (i + 1) < n + 1 - i by omega, ?_⟩
      all_goals refine ⟨[], ?_⟩
      repeat (any_goals (first | exact True.intro | exact rfl | with_reducible_and_instances rfl | exact (by kernel_rfl) | refine And.intro ?_ ?_))
      all_goals conv => whnf
      · exact wk1 (by omega)
      · show iA (IntKind.i64.wrap (((m.length + lackN m first s i : Nat) : Int) + 1)) = iA (m.length + lackN m first s (i + 1) : Nat)
        rw [hsn, wi (by omega) (by omega)]; rfl
    | some y =>
      rw [hf] at hsn
      have hsn : lackN m first s (i + 1) = lackN m first s i := hsn
      have hy := (hm.find hf).1.hl
      iterate 5
        repeat (any_goals (first
          | exact True.intro
          | (refine ⟨_, drop_id, ?_⟩; conv => whnf)
          | (refine ⟨_, _, at_n, ?_⟩; conv => whnf)
          | (refine ⟨_, _, at_hi, ?_⟩; conv => whnf)
          | (refine ⟨_, _, at_lo, ?_⟩; conv => whnf)
          | (refine ⟨_, _, at_mn, ?_⟩; conv => whnf)
          | (refine ⟨_, _, at_mx, ?_⟩; conv => whnf)
          | (refine ⟨_, _, at_ce, ?_⟩; conv => whnf)
          | (refine ⟨_, _, at_po, ?_⟩; conv => whnf)
          | (refine ⟨_, whole_z sC, clenz sC, ?_⟩; conv => whnf)
          | (refine ⟨_, setzC, ?_⟩; conv => whnf)
          | (refine And.intro (clenz sC) ?_; conv => whnf)
          | (refine And.intro fitzC ?_; conv => whnf)
          | (refine ⟨_, whole_cell sC hy, clen sC hy, ?_⟩; conv => whnf)
          | (refine And.intro (clen sC hy) ?_; conv => whnf)
          | (refine And.intro (fitC hy) ?_; conv => whnf)
          | (refine ⟨_, setC hy, ?_⟩; conv => whnf)
          | (refine ⟨_, whole_z sF, clenz sF, ?_⟩; conv => whnf)
          | (refine ⟨_, setzF, ?_⟩; conv => whnf)
          | (refine And.intro (clenz sF) ?_; conv => whnf)
          | (refine And.intro fitzF ?_; conv => whnf)
          | (refine ⟨_, whole_cell sF hy, clen sF hy, ?_⟩; conv => whnf)
          | (refine And.intro (clen sF hy) ?_; conv => whnf)
          | (refine And.intro (fitF hy) ?_; conv => whnf)
          | (refine ⟨_, setF hy, ?_⟩; conv => whnf)
          | (refine And.intro (fit1 hy (by decide)) ?_; conv => whnf)
          | (refine And.intro (fit1 rfl (by decide)) ?_; conv => whnf)
          | (refine ⟨_, sum_cell s25, rfl, ?_⟩; conv => whnf)
          | (refine ⟨_, set_n _, ?_⟩; conv => whnf)
          | (refine ⟨_, set_mn _, ?_⟩; conv => whnf)
          | (refine ⟨_, set_mx _, ?_⟩; conv => whnf)
          | (refine ⟨_, set_ce _, ?_⟩; conv => whnf)
          | (refine ⟨_, set_po _, ?_⟩; conv => whnf)
          | (refine ⟨_, set_s _, ?_⟩; conv => whnf)
          | (refine ⟨_, set_hi _, ?_⟩; conv => whnf)
          | (refine ⟨_, set_lo _, ?_⟩; conv => whnf)
          | (refine And.intro (fun _ => ?_) tf; conv => whnf)
          | (refine And.intro ft (fun _ => ?_); conv => whnf)
          | (refine And.intro (by kernel_rfl) ?_; conv => whnf)
          | (refine And.intro (by decide) ?_; conv => whnf)
          | (refine And.intro (fun _ => ?_) (fun h => absurd h (by decide)); conv => whnf)
          | (refine And.intro (fun h => absurd h (by decide)) (fun _ => ?_); conv => whnf)
          | (refine And.intro (fun _ => ?_) (fun _ => ?_) <;> conv => whnf)
          | (refine ⟨_, _, sh_some hf rfl, ?_⟩; conv => whnf)))
        all_goals try (refine Or.inl ?_; conv => whnf)
      all_goals try exact (bno (decide_eq_true (show (i : Int) < ((n + 1 : Nat) : Int) by omega)) ‹_›).elim
      all_goals try (exfalso; simp only [decide_eq_true_eq, decide_eq_false_iff_not, Bool.not_eq_true', Bool.not_eq_false', Bool.not_eq_true, Bool.not_eq_false, beq_iff_eq, bne_iff_ne, beq_eq_false_iff_ne, bne_eq_false_iff_eq, ne_eq, Decidable.not_not] at *; first | omega | contradiction | (simp_all; done) | (simp_all; omega))
      refine ⟨i + 1, hlt, show n + 1 - (i + 1) < n + 1 - i by omega, ?_⟩
      all_goals refine ⟨[], ?_⟩
      repeat (any_goals (first | exact True.intro | exact rfl | with_reducible_and_instances rfl | exact (by kernel_rfl) | refine And.intro ?_ ?_))
      all_goals conv => whnf
      · exact wk1 (by omega)
      · show iA (m.length + lackN m first s i : Nat) = iA (m.length + lackN m first s (i + 1) : Nat)
        rw [hsn]
  · have hie : i = n + 1 := by omega
    subst hie
    iterate 4
      repeat (any_goals (first
        | exact True.intro
        | (refine And.intro (fun _ => ?_) tf; conv => whnf)
        | (refine And.intro ft (fun _ => ?_); conv => whnf)
        | (refine And.intro (by kernel_rfl) ?_; conv => whnf)
        | (refine And.intro (by decide) ?_; conv => whnf)
        | (refine And.intro (fun _ => ?_) (fun h => absurd h (by decide)); conv => whnf)
        | (refine And.intro (fun h => absurd h (by decide)) (fun _ => ?_); conv => whnf)
        | (refine And.intro (fun _ => ?_) (fun _ => ?_) <;> conv => whnf)))
      all_goals try (exfalso; simp only [decide_eq_true_eq, decide_eq_false_iff_not, Bool.not_eq_true', Bool.not_eq_false', Bool.not_eq_true, Bool.not_eq_false, beq_iff_eq, bne_iff_ne, beq_eq_false_iff_ne, bne_eq_false_iff_eq, ne_eq, Decidable.not_not] at *; first | omega | contradiction | (simp_all; done) | (simp_all; omega))
      all_goals try (refine Or.inl ?_; conv => whnf)
    all_goals refine ⟨[], ?_⟩
    repeat (any_goals (first | exact True.intro | exact rfl | with_reducible_and_instances rfl | exact (by kernel_rfl) | refine And.intro ?_ ?_))
    all_goals conv => whnf
end Go.Proofs.Ytbjmdnemeidpjaa
