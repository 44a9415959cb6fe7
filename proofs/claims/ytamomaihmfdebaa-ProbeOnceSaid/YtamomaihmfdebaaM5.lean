/- Parts VcW, VcY, Mp, Fr, PrP, Pc, Mn, Vs, Frame, VcT, VcX, Ab of the proof, put together. -/
import Derived.Test.YtamomaihmfdebaaM4
import Derived.ChangeKeysEq
import Derived.Laws.StructEq
import Derived.MapKept
import Derived.WideKeyRuns
import Derived.Test.YtamomaihmfdebaaProg
import Derived.KernelRfl
import Derived.ProofKit
import Derived.OpenShut
import Derived.ShutString
import Derived.ChangeOld
import Derived.SizedLaws
import Derived.Carry
import Derived.Deep.Slices
/- Comparisons of pointers, truth values and structs. No program is named here. -/
namespace Go.Proofs.Ytamomaihmfdebaa
set_option linter.unusedSimpArgs false
set_option linter.unusedVariables false
open Go.RowKit
section
variable {P : Program} {w w' : World} {F F' : Nat → Prop} {ρ ρ' : Nat → Option Value} {H : Hp} {L : List AObj} {ty n : Nat} {x y : Operand} {t t' : TypeId}
def isPtrT (P : Program) (t : TypeId) : Bool := match P.underlying t with | some (.pointer _) => true | _ => false
theorem isPtrT_out (h : isPtrT P t = true) : ∃ e, P.underlying t = some (.pointer e) := by
  unfold isPtrT at h
  split at h
  · exact ⟨_, by assumption⟩
  · cases h
theorem does_ra2 {op : Op} {x y : Operand} {a b : AV} {r : Value} (hop : op.operands = #[x, y]) (h : ∀ (o : Oper) (w : World) (F : Nat → Prop) (ρ : Nat → Option Value) (ev : Operand → Value) (u v : Value), o.op = op → ev x = u → ev y = v → RA w F ρ a u → RA w F ρ b v → (execOp ev o).run P w = .ok (.value r) w) : Does P op ty L n [a, b] e0 (.d (.v r)) :=
  does_val fun o w F ρ ev ho _ hx => by
    rw [hop] at hx
    obtain ⟨v1, v2, e, h1, h2⟩ := hx.two_out
    simp at e
    exact ⟨r, h o w F ρ ev v1 v2 ho e.1 e.2 h1 h2, .d (.v r)⟩
theorem run_eq {op : BinOp} {u v : Value} {b c : Bool} {g : Bool → Bool} (hb : ∀ d : Nat, (Op.equalIn (d + 1) t u v).run P w = .ok b w) (hf : binOp op t u v = (do let r ← Op.equal t u v; pure (.bool (g r))))
    (hc : c = g b) : (binOp op t u v).run P w = .ok (.bool c) w := by
  rw [hf, hc]
  have h := hb 9999
  simp [Op.equal, Op.maxDepth, h]
theorem eq_form (u v : Value) (h : (match u, v with | .int .., .int .. => false | .float .., .float .. => false | .complex .., .complex .. => false | .string _, .string _ => false | _, _ => true) = true) : binOp .eql t u v = (do let r ← Op.equal t u v; pure (.bool (id r))) := by
  cases u <;> cases v <;> first | rfl | (simp at h; done)
theorem guard_form {op : BinOp} (u v : Value) (h : (match u, v with | .nilIface, .nilIface => false | .agg _, .agg _ => false | _, _ => true) = true) : (eqGuard op t x y u v).run P w = .ok () w := by
  cases u <;> cases v <;> first | (cases op <;> rfl) | (simp at h)
theorem exec_eq {op : BinOp} {o : Oper} {ev : Operand → Value} {u v : Value} {c : Bool} (ho : o.op = .binOp op t x y t') (h1 : ev x = u) (h2 : ev y = v) (hg : (eqGuard op t x y u v).run P w = .ok () w) (hb : (binOp op t u v).run P w = .ok (.bool c) w) :
    (execOp ev o).run P w = .ok (.value (.bool c)) w := by
  simp only [execOp, ho, h1, h2]
  simp [hg, hb]
theorem eqP {i k : Nat} (h : isPtrT P t = true) : Does P (.binOp .eql t x y t') ty L n [.ptr i k, .d (.v (.pointer none))] e0 (.d (.v (.bool false))) :=
  does_ra2 rfl fun o w F ρ ev u v ho h1 h2 hu hv => by
    obtain ⟨e, he⟩ := isPtrT_out h
    have := hv.v_out
    subst this
    cases hu
    exact exec_eq ho h1 h2 (guard_form _ _ rfl) (run_eq (b := false) (fun d => by simp [Op.equalIn, run_underlying he]) (eq_form _ _ rfl) rfl)
theorem eqN (h : isPtrT P t = true) : Does P (.binOp .eql t x y t') ty L n [.d (.v (.pointer none)), .d (.v (.pointer none))] e0 (.d (.v (.bool true))) :=
  does_lit2 rfl fun o w ev ho h1 h2 => by
    obtain ⟨e, he⟩ := isPtrT_out h
    exact exec_eq ho h1 h2 (guard_form _ _ rfl) (run_eq (b := true) (fun d => by simp [Op.equalIn, run_underlying he]) (eq_form _ _ rfl) rfl)
/-! ### structs of numbers -/
def intT (P : Program) (t : TypeId) : Bool := match P.underlying t with | some (.int _) => true | _ => false
theorem intT_out (h : intT P t = true) : ∃ k, P.underlying t = some (.int k) := by
  unfold intT at h
  split at h
  · exact ⟨_, by assumption⟩
  · cases h
def eq2T (P : Program) (t : TypeId) : Bool := match P.underlying t with
  | some (.struct fs) => (match fs.toList with
    | [f, g] => !P.stoodInHeld t && !P.eqGuardType P.depth t && f.name != "_" && Nat.beq f.offset 0 && intT P f.type && g.name != "_" && Nat.beq g.offset 1 && intT P g.type
    | _ => false)
  | _ => false
theorem run_eq2 {k k' : IntKind} {a b c d : Int} (h : eq2T P t = true) (m : Nat) : (Op.equalIn (m + 2) t (.agg #[.int k a, .int k' b]) (.agg #[.int k c, .int k' d])).run P w = .ok (a == c && b == d) w := by
  unfold eq2T at h
  split at h
  · rename_i fs hu
    split at h
    · rename_i f g hfs
      obtain rfl : fs = #[f, g] := by cases fs; simp at hfs; rw [hfs]
      simp only [Bool.and_eq_true, Bool.not_eq_true', bne_iff_ne] at h
      obtain ⟨⟨⟨⟨⟨⟨⟨h1, _⟩, h3⟩, h4⟩, h5⟩, h6⟩, h7⟩, h8⟩ := h
      obtain ⟨q1, e1⟩ := intT_out h5
      obtain ⟨q2, e2⟩ := intT_out h8
      have h4 := Nat.eq_of_beq_eq_true h4
      have h7 := Nat.eq_of_beq_eq_true h7
      have p1 : ∀ u v : Value, (part f.type #[u, v] 0).run P w = .ok u w := fun u v => by simp [part, isAgg, run_underlying e1]
      have p2 : ∀ u v : Value, (part g.type #[u, v] 1).run P w = .ok v w := fun u v => by simp [part, isAgg, run_underlying e2]
      have q1 : ∀ m a c, (Op.equalIn (m + 1) f.type (.int k a) (.int k c)).run P w = .ok (a == c) w := fun m a c => by simp [Op.equalIn, run_underlying e1]
      have q2 : ∀ m a c, (Op.equalIn (m + 1) g.type (.int k' a) (.int k' c)).run P w = .ok (a == c) w := fun m a c => by simp [Op.equalIn, run_underlying e2]
      rw [Op.equalIn]
      simp [run_underlying hu, h1, h3, h6, h4, h7, p1, p2, q1, q2]
      cases hac : a == c <;> cases hbd : b == d <;> simp_all
    · cases h
  · cases h
theorem eq2_guard {op : BinOp} {us vs : Array Value} (h : eq2T P t = true) : (eqGuard op t x y (.agg us) (.agg vs)).run P w = .ok () w := by
  have hg : P.eqGuardType P.depth t = false := by
    unfold eq2T at h
    split at h
    · split at h
      · simp only [Bool.and_eq_true, Bool.not_eq_true', bne_iff_ne] at h
        exact h.1.1.1.1.1.1.2
      · cases h
    · cases h
  cases op <;> simp [eqGuard, hg]
theorem run_equal2 {k k' : IntKind} {a b c d : Int} (h : eq2T P t = true) : (Op.equal t (.agg #[.int k a, .int k' b]) (.agg #[.int k c, .int k' d])).run P w = .ok (a == c && b == d) w := run_eq2 h 9998
theorem agg2 {k k' : IntKind} {a b : Int} {v : Value} (h : RA w F ρ (.d (.agg [.v (.int k a), .v (.int k' b)])) v) : v = .agg #[.int k a, .int k' b] :=
  FlatW.eq (by repeat constructor) h
/-- Two structs of two numbers. -/
theorem eqS {k k' : IntKind} {a b c d : Int} (h : eq2T P t = true) : Does P (.binOp .eql t x y t') ty L n [.d (.agg [.v (.int k a), .v (.int k' b)]), .d (.agg [.v (.int k c), .v (.int k' d)])] e0 (.d (.v (.bool (a == c && b == d)))) :=
  does_ra2 rfl fun o w F ρ ev u v ho h1 h2 hu hv => by
    have := agg2 hu
    subst this
    have := agg2 hv
    subst this
    exact exec_eq ho h1 h2 (eq2_guard h) (by rw [eq_form _ _ rfl]; simp [run_equal2 h])
end
end Go.Proofs.Ytamomaihmfdebaa
/- Comparisons of structs of numbers, truth values and strings. No program is named here. -/
namespace Go.Proofs.Ytamomaihmfdebaa
set_option linter.unusedSimpArgs false
set_option linter.unusedVariables false
open Go.RowKit
section
variable {P : Program} {w w' : World} {F F' : Nat → Prop} {ρ ρ' : Nat → Option Value} {H : Hp} {L : List AObj} {ty n : Nat} {x y : Operand} {t t' : TypeId}
def tagT (P : Program) (t : TypeId) : Nat := match P.underlying t with | some (.int _) => 1 | some .bool => 2 | some .string => 3 | _ => 0
def flatGo (P : Program) : List Field → Nat → List Nat → Bool
  | [], _, [] => true
  | f :: fs, o, k :: ks => f.name != "_" && Nat.beq f.offset o && Nat.beq (tagT P f.type) k && Nat.blt 0 k && flatGo P fs (o + 1) ks
  | _, _, _ => false
/-- A struct of such cells. -/
def flatB (P : Program) (t : TypeId) (ks : List Nat) : Bool := match P.underlying t with
  | some (.struct fs) => !P.stoodInHeld t && !P.eqGuardType P.depth t && flatGo P fs.toList 0 ks
  | _ => false
def eqV : Nat → D → D → Option Bool
  | 1, .v (.int k a), .v (.int k' b) => match kEq k k' with | true => some (a == b) | false => none
  | 2, .v (.bool a), .v (.bool b) => some (a == b)
  | 3, .v (.string a), .v (.string b) => some (a == b)
  | _, _, _ => none
def eqL : List Nat → List D → List D → Option Bool
  | [], [], [] => some true
  | k :: ks, x :: xs, y :: ys => match ks with
    | [] => (match xs, ys with | [], [] => eqV k x y | _, _ => none)
    | k' :: ks' => (match eqV k x y with
      | some a => (match eqL (k' :: ks') xs ys with | some b => some (a && b) | none => none)
      | none => none)
  | _, _, _ => none
def unD : D → Value
  | .v u => u
  | _ => undef
theorem eqV_out {k : Nat} {x y : D} {b : Bool} (h : eqV k x y = some b) : (k = 1 ∧ ∃ q a c, x = .v (.int q a) ∧ y = .v (.int q c) ∧ b = (a == c)) ∨ (k = 2 ∧ ∃ a c, x = .v (.bool a) ∧ y = .v (.bool c) ∧ b = (a == c)) ∨ (k = 3 ∧ ∃ a c, x = .v (.string a) ∧ y = .v (.string c) ∧ b = (a == c)) := by
  unfold eqV at h
  split at h
  · split at h
    · rename_i hk
      obtain rfl := kEq_out hk
      injection h with h
      exact .inl ⟨rfl, _, _, _, rfl, rfl, h.symm⟩
    · cases h
  · injection h with h
    exact .inr (.inl ⟨rfl, _, _, rfl, rfl, h.symm⟩)
  · injection h with h
    exact .inr (.inr ⟨rfl, _, _, rfl, rfl, h.symm⟩)
  · cases h
theorem tagT_one {t : TypeId} (h : tagT P t = 1) : ∃ k, P.underlying t = some (.int k) := by
  unfold tagT at h
  split at h <;> first | exact ⟨_, by assumption⟩ | (exact absurd h (by decide))
theorem tagT_two {t : TypeId} (h : tagT P t = 2) : P.underlying t = some .bool := by
  unfold tagT at h
  split at h <;> first | assumption | (exact absurd h (by decide))
theorem tagT_three {t : TypeId} (h : tagT P t = 3) : P.underlying t = some .string := by
  unfold tagT at h
  split at h <;> first | assumption | (exact absurd h (by decide))
theorem eqV_run {k : Nat} {x y : D} {b : Bool} (h : eqV k x y = some b) {t : TypeId} (ht : tagT P t = k) (m : Nat) : (Op.equalIn (m + 1) t (unD x) (unD y)).run P w = .ok b w := by
  rcases eqV_out h with ⟨rfl, q, a, c, rfl, rfl, rfl⟩ | ⟨rfl, a, c, rfl, rfl, rfl⟩ | ⟨rfl, a, c, rfl, rfl, rfl⟩
  · obtain ⟨k, hk⟩ := tagT_one ht
    simp [unD, Op.equalIn, run_underlying hk]
  · simp [unD, Op.equalIn, run_underlying (tagT_two ht)]
  · simp [unD, Op.equalIn, run_underlying (tagT_three ht)]
theorem eqV_unD {k : Nat} {x y : D} {b : Bool} (h : eqV k x y = some b) : x = .v (unD x) ∧ y = .v (unD y) := by
  rcases eqV_out h with ⟨rfl, q, a, c, rfl, rfl, rfl⟩ | ⟨rfl, a, c, rfl, rfl, rfl⟩ | ⟨rfl, a, c, rfl, rfl, rfl⟩ <;> exact ⟨rfl, rfl⟩
theorem part_tag {t : TypeId} {k : Nat} (ht : tagT P t = k) (h0 : 0 < k) {cs : Array Value} {o : Nat} {v : Value} (hv : cs[o]? = some v) : (part t cs o).run P w = .ok v w := by
  have : ∃ d, P.underlying t = some d ∧ (match d with | .struct _ => false | .array _ _ => false | _ => true) = true := by
    unfold tagT at ht
    split at ht
    · exact ⟨_, by assumption, rfl⟩
    · exact ⟨_, by assumption, rfl⟩
    · exact ⟨_, by assumption, rfl⟩
    · omega
  obtain ⟨d, hd, h1⟩ := this
  cases d <;> first | (cases h1; done) | simp [part, isAgg, run_underlying hd, hv]
theorem eqL_cons {k : Nat} {ks : List Nat} {xs ys : List D} {b : Bool} (h : eqL (k :: ks) xs ys = some b) : ∃ x xs' y ys' a c, xs = x :: xs' ∧ ys = y :: ys' ∧ eqV k x y = some a ∧ eqL ks xs' ys' = some c ∧ b = (a && c) := by
  cases xs with
  | nil => simp [eqL] at h
  | cons x xs =>
    cases ys with
    | nil => simp [eqL] at h
    | cons y ys =>
      cases ks with
      | nil =>
        cases xs with
        | nil =>
          cases ys with
          | nil => exact ⟨x, [], y, [], b, true, rfl, rfl, h, rfl, by simp⟩
          | cons _ _ => simp [eqL] at h
        | cons _ _ => simp [eqL] at h
      | cons k' ks =>
        rw [eqL] at h
        cases h1 : eqV k x y with
        | none => simp [h1] at h
        | some a =>
          cases h2 : eqL (k' :: ks) xs ys with
          | none => simp [h1, h2] at h
          | some c =>
            simp [h1, h2] at h
            exact ⟨x, xs, y, ys, a, c, rfl, rfl, h1, h2, h.symm⟩
theorem eqL_nil {xs ys : List D} {b : Bool} (h : eqL [] xs ys = some b) : xs = [] ∧ ys = [] ∧ b = true := by
  cases xs <;> cases ys <;> simp [eqL] at h
  exact ⟨rfl, rfl, h⟩
theorem eqL_unD : ∀ {ks : List Nat} {xs ys : List D} {b : Bool}, eqL ks xs ys = some b → xs = xs.map (fun x => .v (unD x)) ∧ ys = ys.map (fun x => .v (unD x))
  | [], xs, ys, b, h => by
    obtain ⟨rfl, rfl, _⟩ := eqL_nil h
    exact ⟨rfl, rfl⟩
  | k :: ks, xs, ys, b, h => by
    obtain ⟨x, xs, y, ys, a, c, rfl, rfl, ha, hc, _⟩ := eqL_cons h
    obtain ⟨e1, e2⟩ := eqV_unD ha
    obtain ⟨f1, f2⟩ := eqL_unD hc
    exact ⟨by rw [List.map_cons, ← e1, ← f1], by rw [List.map_cons, ← e2, ← f2]⟩
theorem flatGo_run (m : Nat) : ∀ {fs : List Field} {o : Nat} {ks : List Nat} {xs ys : List D} {b : Bool} {us vs : Array Value}, flatGo P fs o ks = true → eqL ks xs ys = some b → (∀ j, j < xs.length → us[o + j]? = some (unD (xs.getD j (.v undef)))) → (∀ j, j < ys.length → vs[o + j]? = some (unD (ys.getD j (.v undef)))) →
    (Op.eqFields (m + 1) us vs fs).run P w = .ok b w
  | [], _, [], xs, ys, b, us, vs, _, h, _, _ => by
    obtain ⟨_, _, rfl⟩ := eqL_nil h
    rw [Op.eqFields]; simp
  | [], _, k :: ks, _, _, _, _, _, hg, _, _, _ => by simp [flatGo] at hg
  | f :: fs, o, [], _, _, _, _, _, hg, _, _, _ => by simp [flatGo] at hg
  | f :: fs, o, k :: ks, xs, ys, b, us, vs, hg, h, hu, hv => by
    obtain ⟨x, xs, y, ys, a, c, rfl, rfl, ha, hc, h⟩ := eqL_cons h
    simp only [flatGo, Bool.and_eq_true, bne_iff_ne, Nat.blt_eq] at hg
    obtain ⟨⟨⟨⟨h1, h2⟩, h3⟩, h4⟩, h5⟩ := hg
    have h2 := Nat.eq_of_beq_eq_true h2
    have h3 := Nat.eq_of_beq_eq_true h3
    have p1 := part_tag (w := w) h3 h4 (hu 0 (by simp))
    have p2 := part_tag (w := w) h3 h4 (hv 0 (by simp))
    rw [Nat.add_zero, ← h2] at p1 p2
    have q := eqV_run (w := w) ha h3 m
    have hr := flatGo_run m (us := us) (vs := vs) h5 hc (fun j hj => by have := hu (j + 1) (by simpa using hj); rw [show o + 1 + j = o + (j + 1) by omega, this]; rfl)
      (fun j hj => by have := hv (j + 1) (by simpa using hj); rw [show o + 1 + j = o + (j + 1) by omega, this]; rfl)
    rw [Op.eqFields, if_pos h1]
    simp only [Sem.run_bind, p1, p2, Result.andThen_ok]
    have e1 : (x :: xs).getD 0 (.v undef) = x := rfl
    have e2 : (y :: ys).getD 0 (.v undef) = y := rfl
    rw [e1, e2, q, h]
    cases a with
    | false => simp
    | true => simpa using hr
theorem rds_unD {xs : List D} {vs : List Value} (h : RDs w F xs vs) (he : xs = xs.map (fun x => .v (unD x))) : ∀ j, j < xs.length → vs[j]? = some (unD (xs.getD j (.v undef))) := fun j hj => by
  obtain ⟨v, h1, h2, _⟩ := h.get (List.getElem?_eq_getElem hj)
  have : xs[j] = .v (unD xs[j]) := by
    have := congrArg (fun l => l[j]?) he
    simp only [List.getElem?_map, List.getElem?_eq_getElem hj, Option.map_some] at this
    injection this
  rw [this] at h2
  cases h2
  rw [h1]
  simp [List.getD, List.getElem?_eq_getElem hj]
theorem run_flat {ks : List Nat} {xs ys : List D} {b : Bool} (ht : flatB P t ks = true) (h : eqL ks xs ys = some b) {u v : Value} (hu : RA w F ρ (.d (.agg xs)) u) (hv : RA w F ρ (.d (.agg ys)) v) :
    ∃ us vs, u = .agg us ∧ v = .agg vs ∧ P.eqGuardType P.depth t = false ∧ (Op.equalIn 10000 t u v).run P w = .ok b w := by
  cases hu with | d hu =>
  cases hu with | agg hu =>
  cases hv with | d hv =>
  cases hv with | agg hv =>
  unfold flatB at ht
  split at ht
  · rename_i fs hfs
    simp only [Bool.and_eq_true, Bool.not_eq_true'] at ht
    obtain ⟨⟨h1, h2⟩, h3⟩ := ht
    obtain ⟨e1, e2⟩ := eqL_unD h
    have hff : P.fieldsOf t = fs := by simp [Program.fieldsOf, hfs]
    refine ⟨_, _, rfl, rfl, h2, ?_⟩
    rw [run_equalIn_struct w 9999 t _ _ (by rw [hff]; exact hfs) h1, hff]
    exact flatGo_run 9998 h3 h (fun j hj => by rw [Nat.zero_add, List.getElem?_toArray]; exact rds_unD hu e1 j hj) (fun j hj => by rw [Nat.zero_add, List.getElem?_toArray]; exact rds_unD hv e2 j hj)
  · cases ht
end
end Go.Proofs.Ytamomaihmfdebaa
/- Maps of the call's own: made, looked up, written, shortened, counted. No program is named here. -/
namespace Go.Proofs.Ytamomaihmfdebaa
set_option linter.unusedSimpArgs false
set_option linter.unusedVariables false
open Go.RowKit
set_option linter.unusedSectionVars false
/-! ### closed data as values -/
def vOf : D → Value
  | .v u => u
  | .agg ds => .agg (ds.map unD).toArray
  | .sl _ _ => undef
def closedC : List D → Bool
  | [] => true
  | .v u :: r => u.oneCell' && closedC r
  | _ :: _ => false
def closedD : D → Bool
  | .v _ => true
  | .agg ds => closedC ds
  | .sl _ _ => false
theorem closedC_flat : ∀ {ds : List D}, closedC ds = true → FlatVs ds (ds.map unD)
  | [], _ => .nil
  | .v u :: r, h => by
    simp only [closedC, Bool.and_eq_true] at h
    exact .cons (.v u) h.1 (closedC_flat h.2)
  | .agg _ :: _, h => by simp [closedC] at h
  | .sl _ _ :: _, h => by simp [closedC] at h
theorem closed_flat {x : D} (h : closedD x = true) : FlatV x (vOf x) := by
  cases x with
  | v u => exact .v u
  | agg ds => exact .agg (closedC_flat h)
  | sl s r => cases h
/-! ### a map as a list: keys, elements, births -/
section
variable {κ ν : Type} [DecidableEq κ]
abbrev Es (κ ν : Type) := List (κ × ν × Nat)
def atX (l : Es κ ν) (k : κ) : Option Nat := (l.map (·.1)).findIdx? fun x => decide (x = k)
def findX (l : Es κ ν) (k : κ) : Option ν := (l.find? fun p => decide (p.1 = k)).map (·.2.1)
def hasX (l : Es κ ν) (k : κ) : Bool := (findX l k).isSome
def putX (k : κ) (v : ν) (c : Nat) : Es κ ν → Es κ ν
  | [] => [(k, v, c)]
  | p :: r => if p.1 = k then (k, v, p.2.2) :: r else p :: putX k v c r
def clkX (k : κ) (l : Es κ ν) (c : Nat) : Nat := if hasX l k then c else c + 1
def delX (k : κ) : Es κ ν → Es κ ν
  | [] => []
  | p :: r => if p.1 = k then r else p :: delX k r
def entryOf (ek : κ → D) (ev : ν → D) (p : κ × ν × Nat) : MapEntry := { key := vOf (ek p.1), val := vOf (ev p.2.1), born := p.2.2 }
/-- A map object of just these entries. -/
def mapQ (ek : κ → D) (ev : ν → D) (l : Es κ ν) (c : Nat) (o : Obj) : Prop := o = .map (l.map (entryOf ek ev)).toArray c
abbrev mapO (ek : κ → D) (ev : ν → D) (l : Es κ ν) (c : Nat) : AObj := .obj (mapQ ek ev l c)
/-- A type of keys. -/
structure KeyT (P : Program) (kt : TypeId) (ek : κ → D) : Prop where
  cl : ∀ k, closedD (ek k) = true
  chk : ∀ (b : Bool) (k : κ) (w : World), (Instr.checkKey b 10000 kt (vOf (ek k))).run P w = .ok () w
  fnd : ∀ (k : κ) (ks : List κ) (es : List MapEntry) (w : World), es.map (·.key) = ks.map (fun k => vOf (ek k)) → (Instr.findKey kt (vOf (ek k)) es).run P w = .ok ((ks.findIdx? fun x => decide (x = k)).bind fun i => (es[i]?).map fun e => (i, e.val)) w
  same : ∀ k, Instr.sameBits 10000 (vOf (ek k)) (vOf (ek k)) = true
theorem findX_idx (m : Es κ ν) (k : κ) : findX m k = (atX m k).bind fun i => (m[i]?).map (·.2.1) := by
  unfold findX atX
  induction m with
  | nil => rfl
  | cons p m ih =>
    rw [List.find?_cons, List.map_cons, List.findIdx?_cons]
    by_cases h : p.1 = k
    · simp [h]
    · simp only [h, decide_false, Bool.false_eq_true, if_false]
      rw [ih]
      cases (m.map (·.1)).findIdx? fun x => decide (x = k) <;> simp
theorem putX_idx (m : Es κ ν) (k : κ) (v : ν) (c : Nat) : putX k v c m = match atX m k with | some i => m.modify i (fun p => (k, v, p.2.2)) | none => m ++ [(k, v, c)] := by
  unfold atX
  induction m with
  | nil => rfl
  | cons p m ih =>
    rw [putX, List.map_cons, List.findIdx?_cons]
    by_cases h : p.1 = k
    · simp [h]
    · simp only [h, decide_false, Bool.false_eq_true, if_false]
      rw [ih]
      cases (m.map (·.1)).findIdx? fun x => decide (x = k) <;> simp
theorem delX_idx (m : Es κ ν) (k : κ) : delX k m = match atX m k with | some i => m.eraseIdx i | none => m := by
  unfold atX
  induction m with
  | nil => rfl
  | cons p m ih =>
    rw [delX, List.map_cons, List.findIdx?_cons]
    by_cases h : p.1 = k
    · simp [h]
    · simp only [h, decide_false, Bool.false_eq_true, if_false]
      rw [ih]
      cases (m.map (·.1)).findIdx? fun x => decide (x = k) <;> simp
theorem findIdx_lt {l : List κ} {p : κ → Bool} {i : Nat} (h : l.findIdx? p = some i) : i < l.length ∧ ∀ x, l[i]? = some x → p x = true := by
  induction l generalizing i with
  | nil => simp at h
  | cons y l ih =>
    rw [List.findIdx?_cons] at h
    by_cases hp : p y = true
    · rw [if_pos hp] at h; injection h with h; subst h
      exact ⟨by simp, fun x hx => by simp at hx; subst hx; exact hp⟩
    · rw [if_neg hp] at h
      cases hq : l.findIdx? p with
      | none => rw [hq] at h; cases h
      | some j =>
        rw [hq] at h; simp at h; subst h
        obtain ⟨h1, h2⟩ := ih hq
        exact ⟨by simp; exact h1, fun x hx => h2 x (by simpa using hx)⟩
end
section
variable {P : Program} {w w' : World} {F F' : Nat → Prop} {ρ ρ' : Nat → Option Value} {H : Hp} {L : List AObj} {ty n : Nat} {κ ν : Type} [DecidableEq κ] {ek : κ → D} {ev : ν → D} {m : Es κ ν} {c : Nat} {t kt et : TypeId} {i j : Nat} {k : κ} {v : ν} {mx kx vx : Operand}
/-- The map behind a handle. -/
theorem Env.mapAt (E : Env F ρ H w) (hi : H i = some (mapO ek ev m c)) {u : Value} (hu : RA w F ρ (.mp i) u) :
    ∃ b, u = .map (some b) ∧ ρ i = some (.map (some b)) ∧ w.heap[b]? = some (.map (m.map (entryOf ek ev)).toArray c) := by
  cases hu with | mp hρ =>
    rename_i b
    obtain ⟨hh, e1, ⟨b', o, hb, ho, h1⟩, e3⟩ := E.rep i _ hi rfl
    rw [hρ] at e1; injection e1 with e1; subst e1
    have h1 : o = .map (m.map (entryOf ek ev)).toArray c := h1
    subst h1
    rcases hb with hb | hb
    · cases hb
    · injection hb with hb; injection hb with hb; subst hb
      exact ⟨_, rfl, hρ, ho⟩
theorem grown_mp {b : Nat} {o o' : Obj} (hb : w.heap[b]? = some o) : w.grownBy { w with heap := w.heap.setIfInBounds b o' } (some b) := by
  refine ⟨rfl, rfl, rfl, by simp, fun g hg hne => ?_⟩
  have : b ≠ g := fun e => hne (by rw [e])
  simp [this]
theorem alloc_lt (w : World) (o : Obj) : w.heap.size < (w.alloc o).heap.size := by
  have : (w.alloc o).heap = w.heap.push o := rfl
  rw [this]; simp
theorem eraseIdx_map' {α β : Type} (f : α → β) : ∀ (l : List α) (i : Nat), (l.eraseIdx i).map f = (l.map f).eraseIdx i
  | [], _ => rfl
  | _ :: _, 0 => rfl
  | x :: l, i + 1 => by simp [List.eraseIdx, eraseIdx_map' f l i]
/-- What is found in a map object. -/
theorem run_found (K : KeyT P kt ek) (m : Es κ ν) (k : κ) (w : World) :
    (findX m k = none ∧ (Instr.findKey kt (vOf (ek k)) (m.map (entryOf ek ev))).run P w = .ok none w ∧ atX m k = none) ∨ ∃ j p, findX m k = some p.2.1 ∧ (Instr.findKey kt (vOf (ek k)) (m.map (entryOf ek ev))).run P w = .ok (some (j, vOf (ev p.2.1))) w ∧ atX m k = some j ∧ m[j]? = some p ∧ p.1 = k := by
  have h1 := K.fnd k (m.map (·.1)) (m.map (entryOf ek ev)) w (by simp [List.map_map, Function.comp_def, entryOf])
  have h2 := findX_idx m k
  rw [show ((m.map (·.1)).findIdx? fun x => decide (x = k)) = atX m k from rfl] at h1
  cases hj : atX m k with
  | none => rw [hj] at h1 h2; exact .inl ⟨h2, h1, rfl⟩
  | some j =>
    rw [hj] at h1 h2
    obtain ⟨q1, q2⟩ := findIdx_lt hj
    have q1' : j < m.length := by simpa using q1
    have hkk : m[j].1 = k := by simpa using q2 m[j].1 (by simp [List.getElem?_eq_getElem q1'])
    refine .inr ⟨j, m[j], ?_, ?_, rfl, List.getElem?_eq_getElem q1', hkk⟩
    · rw [h2]; simp [List.getElem?_eq_getElem q1']
    · rw [h1]; simp [List.getElem?_eq_getElem q1', entryOf]
theorem mp_make : Does P (.makeMap t none) ty L n [] ⟨[], [], [mapO ek ev [] 0]⟩ (.mp n) := by
  intro o H F ρ w ev' ho ht En hrs hn hx
  have hn0 : H n = none := by simpa using hn 0 (by simp)
  have hrun : (execOp ev' o).run P w = .ok (.value (.map (some w.heap.size))) (w.alloc (.map #[] 0)) := by
    simp only [execOp, ho, Sem.run_bind]
    rfl
  rw [hrun]
  obtain ⟨S1, K1, E1⟩ := En.new (n := n) (o' := mapO ek ev [] 0) (h := .map (some w.heap.size)) hn0 (World.grownBy_alloc w (.map #[] 0) none) (fun b hb => by simp [blkOf] at hb; subst hb; exact ⟨Nat.le_refl _, alloc_lt _ _⟩)
    ⟨w.heap.size, .map #[] 0, .inr rfl, (MapKept.heap_alloc w _).1, rfl⟩
  exact ⟨F, _, S1, K1, E1, .mp (updF_same _ _ _)⟩
theorem run_lookup {b : Nat} {z : ν} {cm : Bool} (ht : P.underlying t = some (.map kt et)) (K : KeyT P kt ek) (hz : (zeroValue et).run P w = .ok (vOf (ev z)) w) (hb : w.heap[b]? = some (.map (m.map (entryOf ek ev)).toArray c)) (k : κ) :
    (Instr.lookup t (.map (some b)) (vOf (ek k)) cm).run P w = .ok (if cm then .tuple #[vOf (ev ((findX m k).getD z)), .bool (findX m k).isSome] else vOf (ev ((findX m k).getD z))) w := by
  have hg := MapKept.run_getObj_map (P := P) hb
  have hc := fun b => K.chk b k w
  rcases run_found (ev := ev) K m k w with ⟨h1, h2, _⟩ | ⟨j, x, h1, h2, _⟩
  · rw [h1]
    simp only [Instr.lookup, Sem.run_bind, run_underlying ht, Result.andThen_ok, hg, hc, h2, hz, Sem.run_pure]
    cases cm <;> rfl
  · rw [h1]
    simp only [Instr.lookup, Sem.run_bind, run_underlying ht, Result.andThen_ok, hg, hc, h2, Sem.run_pure]
    cases cm <;> rfl
theorem zero_run {u : Value} (hz : (P.info? et).bind (·.zero) = some u) : (zeroValue et).run P w = .ok u w := by
  obtain ⟨inf, h1, h2⟩ := Option.bind_eq_some_iff.1 hz
  simp [zeroValue, typeInfo, h1, h2]
theorem mp_look (K : KeyT P kt ek) (hv : ∀ x, closedD (ev x) = true) (z : ν) (ht : P.underlying t = some (.map kt et)) (hz : (P.info? et).bind (·.zero) = some (vOf (ev z))) (k : κ) (hi : L[i]? = some (mapO ek ev m c)) :
    Does P (.lookup t mx kx false) ty L n [.mp i, .d (ek k)] ⟨[i], [], []⟩ (.d (ev ((findX m k).getD z))) := by
  intro o H F ρ w ev' ho _ En hrs hn hx
  obtain ⟨u, q, e', hu, hq⟩ := hx.two_out
  simp [Op.operands] at e'
  have hi' : H i = some (mapO ek ev m c) := by rw [hrs i (by simp)]; exact hi
  obtain ⟨b, rfl, e1, e2⟩ := En.mapAt hi' hu
  have := FlatW.eq (.d (closed_flat (K.cl k))) hq
  subst this
  have hr := run_lookup (cm := false) ht K (zero_run hz) e2 k
  have hrun : (execOp ev' o).run P w = .ok (.value (vOf (ev ((findX m k).getD z)))) w := by simp only [execOp, ho, e'.1, e'.2, Sem.run_bind, hr, Result.andThen_ok]; rfl
  rw [hrun]
  exact Post.same En (FlatW.ra (.d (closed_flat (hv _))))
theorem mp_looks (K : KeyT P kt ek) (hv : ∀ x, closedD (ev x) = true) (z : ν) (ht : P.underlying t = some (.map kt et)) (hz : (P.info? et).bind (·.zero) = some (vOf (ev z))) (k : κ) (hi : L[i]? = some (mapO ek ev m c)) :
    Does P (.lookup t mx kx true) ty L n [.mp i, .d (ek k)] ⟨[i], [], []⟩ (.tup [.d (ev ((findX m k).getD z)), .d (.v (.bool (findX m k).isSome))]) := by
  intro o H F ρ w ev' ho _ En hrs hn hx
  obtain ⟨u, q, e', hu, hq⟩ := hx.two_out
  simp [Op.operands] at e'
  have hi' : H i = some (mapO ek ev m c) := by rw [hrs i (by simp)]; exact hi
  obtain ⟨b, rfl, e1, e2⟩ := En.mapAt hi' hu
  have := FlatW.eq (.d (closed_flat (K.cl k))) hq
  subst this
  have hr := run_lookup (cm := true) ht K (zero_run hz) e2 k
  have hrun : (execOp ev' o).run P w = .ok (.value (.tuple #[vOf (ev ((findX m k).getD z)), .bool (findX m k).isSome])) w := by simp only [execOp, ho, e'.1, e'.2, Sem.run_bind, hr, Result.andThen_ok]; rfl
  rw [hrun]
  exact Post.same En (FlatW.ra (.tup (.cons (.d (closed_flat (hv _))) (.cons (.d (.v _)) .nil))))
theorem modify_list {α : Type} (l : List α) (i : Nat) (f : α → α) : (l.toArray.modify i f) = (l.modify i f).toArray := by
  apply Array.ext'
  apply List.ext_getElem?
  intro q
  rw [Array.getElem?_toList, Array.getElem?_modify, List.getElem?_modify]
  by_cases hq : i = q <;> simp [hq]
/-- What an update makes of a map's block. -/
theorem run_put {b : Nat} (ht : P.underlying t = some (.map kt et)) (K : KeyT P kt ek) (hb : w.heap[b]? = some (.map (m.map (entryOf ek ev)).toArray c)) (k : κ) (v : ν) :
    (Instr.mapUpdate t (.map (some b)) (vOf (ek k)) (vOf (ev v))).run P w = .ok () { w with heap := w.heap.setIfInBounds b (.map ((putX k v c m).map (entryOf ek ev)).toArray (clkX k m c)) } := by
  have hg := MapKept.run_getObj_map (P := P) hb
  have hc := K.chk false k w
  rcases run_found (ev := ev) K m k w with ⟨h1, h2, h3⟩ | ⟨j, x, h1, h2, h3, h4, h5⟩
  · have e : (.map ((putX k v c m).map (entryOf ek ev)).toArray (clkX k m c) : Obj) = .map ((m.map (entryOf ek ev)).toArray.push { key := vOf (ek k), val := vOf (ev v), born := c }) (c + 1) := by
      rw [putX_idx, h3, clkX, hasX, h1]
      simp [entryOf]
    rw [e]
    simp only [Instr.mapUpdate, Sem.run_bind, run_underlying ht, Result.andThen_ok, hg, hc, h2, MapKept.run_setObj_map _ hb]
  · have e : (.map ((putX k v c m).map (entryOf ek ev)).toArray (clkX k m c) : Obj) = .map ((m.map (entryOf ek ev)).toArray.modify j fun e => { e with key := vOf (ek k), val := vOf (ev v) }) c := by
      rw [putX_idx, h3, clkX, hasX, h1, modify_list]
      simp only [Option.isSome_some, if_true]
      congr 2
      apply List.ext_getElem?
      intro q
      rw [List.getElem?_map, List.getElem?_modify, List.getElem?_modify, List.getElem?_map]
      by_cases hq : j = q
      · subst hq; rw [h4]; simp [entryOf]
      · simp [hq]
    have hks : (Instr.keyThatStays (vOf (ek k)) (vOf (ek k))).run P w = .ok (vOf (ek k)) w := by simp [Instr.keyThatStays, K.same k]
    have hkk : (((m.map (entryOf ek ev)).toArray[j]?).map (·.key)).getD (vOf (ek k)) = vOf (ek k) := by simp [h4, entryOf, h5]
    rw [e]
    simp only [Instr.mapUpdate, Sem.run_bind, run_underlying ht, Result.andThen_ok, hg, hc, h2, hkk, hks, MapKept.run_setObj_map _ hb]
theorem mp_put (K : KeyT P kt ek) (hv : ∀ x, closedD (ev x) = true) (ht : P.underlying t = some (.map kt et)) (k : κ) (v : ν) (hi : L[i]? = some (mapO ek ev m c)) :
    Does P (.mapUpdate t mx kx vx) ty L n [.mp i, .d (ek k), .d (ev v)] ⟨[i], [(i, mapO ek ev (putX k v c m) (clkX k m c))], []⟩ .any := by
  intro o H F ρ w ev' ho _ En hrs hn hx
  obtain ⟨u, q, r, e', hu, hq, hr⟩ := hx.three_out
  simp [Op.operands] at e'
  have hi' : H i = some (mapO ek ev m c) := by rw [hrs i (by simp)]; exact hi
  obtain ⟨b, rfl, e1, e2⟩ := En.mapAt hi' hu
  have := FlatW.eq (.d (closed_flat (K.cl k))) hq
  subst this
  have := FlatW.eq (.d (closed_flat (hv v))) hr
  subst this
  have g4 := run_put ht K e2 k v
  have hrun : (execOp ev' o).run P w = .ok .skip { w with heap := w.heap.setIfInBounds b (.map ((putX k v c m).map (entryOf ek ev)).toArray (clkX k m c)) } := by simp only [execOp, ho, e'.1, e'.2.1, e'.2.2, Sem.run_bind, g4, Result.andThen_ok]; rfl
  rw [hrun]
  obtain ⟨S1, E1⟩ := En.upd (o' := mapO ek ev (putX k v c m) (clkX k m c)) hi' rfl e1 (grown_mp e2) ⟨b, _, .inr rfl, (MapKept.heap_set e2).1, rfl⟩
  exact ⟨F, ρ, S1, Keep.refl _, E1, .any _⟩
theorem mp_del {kt' : TypeId} (K : KeyT P kt ek) (ht : P.underlying t = some (.map kt et)) (k : κ) (hi : L[i]? = some (mapO ek ev m c)) :
    Does P (.call { callee := .builtin .delete, args := #[mx, kx], argTypes := #[t, kt'] }) ty L n [.mp i, .d (ek k)] ⟨[i], [(i, mapO ek ev (delX k m) c)], []⟩ (.tup []) := by
  intro o H F ρ w ev' ho _ En hrs hn hx
  have hops : (Op.operands (.call { callee := .builtin .delete, args := #[mx, kx], argTypes := #[t, kt'] })).toList = [mx, kx] := by simp [Op.operands, Call.operands]
  rw [hops] at hx
  obtain ⟨u, q, e', hu, hq⟩ := hx.two_out
  simp at e'
  have hi' : H i = some (mapO ek ev m c) := by rw [hrs i (by simp)]; exact hi
  obtain ⟨b, rfl, e1, e2⟩ := En.mapAt hi' hu
  have := FlatW.eq (.d (closed_flat (K.cl k))) hq
  subst this
  have hg := MapKept.run_getObj_map (P := P) e2
  have hc := fun b => K.chk b k w
  have g4 : (Builtin.delete_ #[t, kt'] o.type #[.map (some b), vOf (ek k)]).run P w = .ok (.tuple #[]) { w with heap := w.heap.setIfInBounds b (.map ((delX k m).map (entryOf ek ev)).toArray c) } := by
    rcases run_found (ev := ev) K m k w with ⟨h1, h2, h3⟩ | ⟨j, x, h1, h2, h3, h4, h5⟩
    · rw [delX_idx, h3]
      simp [Builtin.delete_, run_underlying ht, hg, hc, h2, MapKept.run_setObj_map _ e2]
    · have hj := (List.getElem?_eq_some_iff.1 h4).1
      have e : ((delX k m).map (entryOf ek ev)).toArray = (m.map (entryOf ek ev)).toArray.eraseIdxIfInBounds j := by
        rw [delX_idx, h3]
        unfold Array.eraseIdxIfInBounds
        rw [dif_pos (by simpa using hj)]
        apply Array.ext'
        simp [eraseIdx_map']
      rw [e]
      simp [Builtin.delete_, run_underlying ht, hg, hc, h2, MapKept.run_setObj_map _ e2]
  have hrun : (execOp ev' o).run P w = .ok (.value (.tuple #[])) { w with heap := w.heap.setIfInBounds b (.map ((delX k m).map (entryOf ek ev)).toArray c) } := by simp [execOp, ho, resolve, invoke, builtin, e'.1, e'.2, g4]
  rw [hrun]
  obtain ⟨S1, E1⟩ := En.upd (o' := mapO ek ev (delX k m) c) hi' rfl e1 (grown_mp e2) ⟨b, _, .inr rfl, (MapKept.heap_set e2).1, rfl⟩
  exact ⟨F, ρ, S1, Keep.refl _, E1, .tup .nil⟩
end
/-! ### kinds of keys -/
section
variable {P : Program} {κ : Type} [DecidableEq κ] {kt : TypeId}
theorem findNow_list {d : TypeDesc} {kv : Value} {f : κ → Value} {k : κ} (hs : ∀ x, Instr.sameNow d kv (f x) = some (decide (x = k))) : ∀ (ks : List κ) (es : List MapEntry) (i : Nat), es.map (·.key) = ks.map f → Instr.findNow d kv es i = some ((ks.findIdx? fun x => decide (x = k)).bind fun j => (es[j]?).map fun e => (i + j, e.val))
  | [], es, i, h => by
    have : es = [] := by simpa using h
    subst this; rfl
  | x :: ks, [], i, h => by simp at h
  | x :: ks, e :: es, i, h => by
    simp only [List.map_cons, List.cons.injEq] at h
    rw [Instr.findNow, h.1, hs x, List.findIdx?_cons]
    by_cases hk : x = k
    · simp [hk]
    · simp only [hk, decide_false, Bool.false_eq_true, if_false]
      rw [findNow_list hs ks es (i + 1) h.2]
      cases ks.findIdx? fun x => decide (x = k) with
      | none => rfl
      | some j => simp; congr 1; funext e; congr 1; omega
theorem findAsk_list {kv : Value} {f : κ → Value} {k : κ} {w : World} (hs : ∀ x, (Op.equal kt kv (f x)).run P w = .ok (decide (x = k)) w) : ∀ (ks : List κ) (es : List MapEntry) (i : Nat), es.map (·.key) = ks.map f → (Instr.findAsking kt kv es i).run P w = .ok ((ks.findIdx? fun x => decide (x = k)).bind fun j => (es[j]?).map fun e => (i + j, e.val)) w
  | [], es, i, h => by
    have : es = [] := by simpa using h
    subst this; simp [Instr.findAsking]
  | x :: ks, [], i, h => by simp at h
  | x :: ks, e :: es, i, h => by
    simp only [List.map_cons, List.cons.injEq] at h
    rw [Instr.findAsking, h.1]
    simp only [Sem.run_bind, hs x, Result.andThen_ok, List.findIdx?_cons]
    by_cases hk : x = k
    · simp [hk]
    · simp only [hk, decide_false, Bool.false_eq_true, if_false]
      rw [findAsk_list hs ks es (i + 1) h.2]
      cases ks.findIdx? fun x => decide (x = k) with
      | none => rfl
      | some j => simp; congr 1; funext e; congr 1; omega
def intD (q : IntKind) (z : Int) : D := .v (.int q z)
theorem key_int {q : IntKind} (hk : P.underlying kt = some (.int q)) : KeyT P kt (intD q) where
  cl _ := rfl
  chk b k w := MapKept.run_checkKey hk (show MapKept.IsKey (.int q) (.int q k) from rfl) b 9999
  fnd k ks es w h := by
    have := findNow_list (d := .int q) (kv := .int q k) (f := fun k => vOf (intD q k)) (k := k) (fun x => by
      show (if q = q then some (k == x) else none) = _
      rw [if_pos rfl]
      congr 1
      rw [Bool.eq_iff_iff]
      simp only [beq_iff_eq, decide_eq_true_eq]
      exact eq_comm) ks es 0 h
    simp only [Nat.zero_add] at this
    exact MapKept.run_findKey hk this
  same k := by simp [vOf, intD, Instr.sameBits]
theorem check_flat {em : Bool} {n : Nat} {us : Array Value} {w : World} : ∀ {fs : List Field} {o : Nat} {ks : List Nat} {xs : List D}, flatGo P fs o ks = true → eqL ks xs xs ≠ none → (∀ j, j < xs.length → us[o + j]? = some (unD (xs.getD j (.v undef)))) →
    (forIn (m := Sem) fs PUnit.unit fun f _ => do
        if f.name ≠ "_" then Instr.checkKey em (n + 1) f.type (← part f.type us f.offset)
        pure (ForInStep.yield PUnit.unit)).run P w = .ok PUnit.unit w
  | [], _, _, _, _, _, _ => by simp
  | f :: fs, o, [], _, hg, _, _ => by simp [flatGo] at hg
  | f :: fs, o, k :: ks, xs, hg, h, hu => by
    obtain ⟨b, hb⟩ := Option.ne_none_iff_exists'.1 h
    obtain ⟨x, xs, y, ys, a, c, rfl, e2, ha, hc, _⟩ := eqL_cons hb
    injection e2 with e2 e3
    subst e2 e3
    simp only [flatGo, Bool.and_eq_true, bne_iff_ne, Nat.blt_eq] at hg
    obtain ⟨⟨⟨⟨h1, h2⟩, h3⟩, h4⟩, h5⟩ := hg
    have h2 := Nat.eq_of_beq_eq_true h2
    have h3 := Nat.eq_of_beq_eq_true h3
    have p1 := part_tag (w := w) h3 h4 (hu 0 (by simp))
    rw [Nat.add_zero, ← h2] at p1
    have p2 : (Instr.checkKey em (n + 1) f.type (unD ((x :: xs).getD 0 (.v undef)))).run P w = .ok () w := by
      have e1 : (x :: xs).getD 0 (.v undef) = x := rfl
      rw [e1]
      rcases eqV_out ha with ⟨rfl, q, a, c, rfl, _⟩ | ⟨rfl, a, c, rfl, _⟩ | ⟨rfl, a, c, rfl, _⟩
      · obtain ⟨k, hk⟩ := tagT_one h3
        simp [unD, Instr.checkKey, run_underlying hk]
      · simp [unD, Instr.checkKey, run_underlying (tagT_two h3)]
      · simp [unD, Instr.checkKey, run_underlying (tagT_three h3)]
    have ih := check_flat (em := em) (n := n) (us := us) (w := w) h5 (by rw [hc]; simp) (fun j hj => by have := hu (j + 1) (by simpa using hj); rw [show o + 1 + j = o + (j + 1) by omega, this]; rfl)
    simp only [List.forIn_cons, Sem.run_bind, h1, ne_eq, not_false_eq_true, if_true, Result.andThen_ok, p1, p2, Sem.run_pure]
    exact ih
theorem closed_unD {ks : List Nat} {xs : List D} (h : eqL ks xs xs ≠ none) : closedC xs = true ∧ xs = xs.map (fun x => .v (unD x)) ∧ Instr.sameBits 10000 (.agg (xs.map unD).toArray) (.agg (xs.map unD).toArray) = true := by
  obtain ⟨b, hb⟩ := Option.ne_none_iff_exists'.1 h
  have key : ∀ {ks : List Nat} {xs : List D} {b : Bool}, eqL ks xs xs = some b → closedC xs = true ∧ ((xs.map unD).zip (xs.map unD)).all (fun (x, y) => Instr.sameBits 9999 x y) = true := by
    intro ks
    induction ks with
    | nil => intro xs b h; obtain ⟨rfl, _, _⟩ := eqL_nil h; exact ⟨rfl, rfl⟩
    | cons k ks ih =>
      intro xs b h
      obtain ⟨x, xs, y, ys, a, c, rfl, e2, ha, hc, _⟩ := eqL_cons h
      injection e2 with e2 e3
      subst e2 e3
      obtain ⟨q1, q2⟩ := ih hc
      rcases eqV_out ha with ⟨rfl, q, a, c, rfl, _⟩ | ⟨rfl, a, c, rfl, _⟩ | ⟨rfl, a, c, rfl, _⟩
      · exact ⟨by simpa [closedC, Value.oneCell'] using q1, by simpa [unD, Instr.sameBits] using q2⟩
      · exact ⟨by simpa [closedC, Value.oneCell'] using q1, by simpa [unD, Instr.sameBits] using q2⟩
      · exact ⟨by simpa [closedC, Value.oneCell'] using q1, by simpa [unD, Instr.sameBits, MapKept.bytes_beq] using q2⟩
  obtain ⟨h1, h2⟩ := key hb
  exact ⟨h1, (eqL_unD hb).1, by simpa [Instr.sameBits] using h2⟩
/-- Structs of numbers, truth values and strings. -/
theorem key_flat (ks : List Nat) {f : κ → List D} (ht : flatB P kt ks = true) (h : ∀ a b, eqL ks (f a) (f b) = some (decide (b = a))) : KeyT P kt (fun k => .agg (f k)) where
  cl k := (closed_unD (by rw [h k k]; simp)).1
  chk b k w := by
    have ht' := ht
    unfold flatB at ht
    split at ht
    · rename_i fs hfs
      simp only [Bool.and_eq_true, Bool.not_eq_true'] at ht
      have := check_flat (em := b) (n := 9998) (us := ((f k).map unD).toArray) (w := w) ht.2 (xs := f k) (by rw [h k k]; simp) (fun j hj => by simp [hj, List.getD])
      rw [show vOf (.agg (f k)) = .agg ((f k).map unD).toArray from rfl, Instr.checkKey]
      simp only [Sem.run_bind, run_underlying hfs, Result.andThen_ok]
      rw [← Array.forIn_toList]
      simp at this ⊢
      rw [this]
      rfl
    · cases ht
  fnd k ks' es w he := by
    have hw : (Instr.findKey kt (vOf (.agg (f k))) es).run P w = (Instr.findAsking kt (vOf (.agg (f k))) es).run P w := by
      refine run_findKey_eq w ?_ _ _
      unfold flatB at ht
      split at ht
      · rename_i hfs; rw [hfs]
      · cases ht
    rw [hw]
    have := findAsk_list (P := P) (kt := kt) (kv := vOf (.agg (f k))) (f := fun k => vOf (.agg (f k))) (k := k) (w := w) (fun x => by
      have q : ∀ k, RA w (fun _ => False) (fun _ => none) (.d (.agg (f k))) (vOf (.agg (f k))) := fun k => FlatW.ra (.d (closed_flat (closed_unD (by rw [h k k]; simp)).1))
      obtain ⟨us, vs, e1, e2, _, hr⟩ := run_flat (P := P) (w := w) ht (h k x) (q k) (q x)
      exact hr) ks' es 0 he
    simpa using this
  same k := (closed_unD (by rw [h k k]; simp)).2.2
end
end Go.Proofs.Ytamomaihmfdebaa
/- Maps whose entries bear numbers of their own, in plain Lean. No program is named here. -/
namespace Go.Proofs.Ytamomaihmfdebaa
set_option linter.unusedSimpArgs false
set_option linter.unusedVariables false
set_option linter.unusedSectionVars false
open Go.RowKit
set_option maxRecDepth 100000
section
variable {κ ν : Type} [DecidableEq κ]
structure Fr (m : Es κ ν) (c : Nat) : Prop where
  nd : (m.map (·.2.2)).Nodup
  lt : ∀ p ∈ m, p.2.2 < c
  ks : (m.map (·.1)).Nodup
theorem Fr.nil : Fr ([] : Es κ ν) 0 := ⟨List.nodup_nil, fun p h => (by cases h), List.nodup_nil⟩
theorem hasX_iff {m : Es κ ν} {k : κ} : hasX m k = true ↔ k ∈ m.map (·.1) := by
  unfold hasX findX
  rw [Option.isSome_map, List.find?_isSome]
  simp only [decide_eq_true_eq, List.mem_map]
theorem putX_new {m : Es κ ν} {k : κ} {v : ν} {c : Nat} (h : k ∉ m.map (·.1)) : putX k v c m = m ++ [(k, v, c)] := by
  induction m with
  | nil => rfl
  | cons p m ih =>
    rw [List.map_cons, List.mem_cons, not_or] at h
    show (if p.1 = k then _ else p :: putX k v c m) = _
    rw [if_neg (fun e => h.1 e.symm), ih h.2]; rfl
theorem putX_keys {m : Es κ ν} {k : κ} {v : ν} {c : Nat} (h : k ∈ m.map (·.1)) : (putX k v c m).map (·.1) = m.map (·.1) ∧ (putX k v c m).map (·.2.2) = m.map (·.2.2) := by
  induction m with
  | nil => cases h
  | cons p m ih =>
    by_cases e : p.1 = k
    · have : putX k v c (p :: m) = (k, v, p.2.2) :: m := if_pos e
      rw [this]; simp [e]
    · have : putX k v c (p :: m) = p :: putX k v c m := if_neg e
      rw [this]
      have := ih (by rcases List.mem_cons.1 h with q | q; exact absurd q.symm e; exact q)
      simp [this.1, this.2]
theorem Fr.put {m : Es κ ν} {c : Nat} (h : Fr m c) (k : κ) (v : ν) : Fr (putX k v c m) (clkX k m c) ∧ ∀ x, x ∈ (putX k v c m).map (·.1) ↔ x = k ∨ x ∈ m.map (·.1) := by
  by_cases hk : k ∈ m.map (·.1)
  · obtain ⟨e1, e2⟩ := putX_keys (v := v) (c := c) hk
    have hc : clkX k m c = c := if_pos (hasX_iff.2 hk)
    rw [hc]
    refine ⟨⟨by rw [e2]; exact h.nd, fun p hp => ?_, by rw [e1]; exact h.ks⟩, fun x => ?_⟩
    · have : p.2.2 ∈ (putX k v c m).map (·.2.2) := List.mem_map.2 ⟨p, hp, rfl⟩
      rw [e2] at this
      obtain ⟨q, hq, e⟩ := List.mem_map.1 this
      rw [← e]; exact h.lt q hq
    · rw [e1]
      exact ⟨.inr, fun q => q.elim (fun e => by rw [e]; exact hk) id⟩
  · have e := putX_new (v := v) (c := c) hk
    have hc : clkX k m c = c + 1 := if_neg (fun q => hk (hasX_iff.1 q))
    rw [hc, e]
    refine ⟨⟨?_, fun p hp => ?_, ?_⟩, fun x => ?_⟩
    · rw [List.map_append, List.nodup_append]
      refine ⟨h.nd, by simp, fun x hx y hy exy => ?_⟩
      simp at hy; subst hy exy
      obtain ⟨p, hp, hpe⟩ := List.mem_map.1 hx
      have := h.lt p hp; omega
    · rcases List.mem_append.1 hp with hp | hp
      · have := h.lt p hp; omega
      · rw [List.mem_singleton.1 hp]; exact Nat.lt_succ_self _
    · rw [List.map_append, List.nodup_append]
      refine ⟨h.ks, by simp, fun x hx y hy exy => ?_⟩
      simp at hy; subst hy exy
      exact hk hx
    · rw [List.map_append, List.mem_append]
      simp [or_comm]
end
section
variable {κ ν : Type} [DecidableEq κ]
theorem findX_put {m : Es κ ν} {k : κ} {v : ν} {c : Nat} (k' : κ) : findX (putX k v c m) k' = if k' = k then some v else findX m k' := by
  induction m with
  | nil =>
    show findX [(k, v, c)] k' = _
    unfold findX
    by_cases e : k' = k
    · rw [if_pos e, List.find?_cons_of_pos (by simpa using e.symm)]; rfl
    · rw [if_neg e, List.find?_cons_of_neg (by simpa using fun q => e q.symm)]
  | cons p m ih =>
    by_cases h : p.1 = k
    · have : putX k v c (p :: m) = (k, v, p.2.2) :: m := if_pos h
      rw [this]
      unfold findX
      by_cases e : k' = k
      · rw [if_pos e, List.find?_cons_of_pos (by simpa using e.symm)]; rfl
      · rw [if_neg e, List.find?_cons_of_neg (by simpa using fun q => e q.symm), List.find?_cons_of_neg (by rw [h]; simpa using fun q => e q.symm)]
    · have : putX k v c (p :: m) = p :: putX k v c m := if_neg h
      rw [this]
      unfold findX at ih ⊢
      by_cases e : p.1 = k'
      · rw [List.find?_cons_of_pos (by simpa using e), List.find?_cons_of_pos (by simpa using e)]
        rw [if_neg (fun q => h (e.trans q))]
      · rw [List.find?_cons_of_neg (by simpa using e), List.find?_cons_of_neg (by simpa using e)]
        exact ih
end
end Go.Proofs.Ytamomaihmfdebaa
/- probe, in plain Lean: what is out, what was sent, what was answered. -/
namespace Go.Proofs.Ytamomaihmfdebaa
set_option linter.unusedSimpArgs false
set_option linter.unusedVariables false
open Go.RowKit
/-- A probe that is out: boot, count, agent, epoch, time. -/
structure Snt where
  b : Int
  c : Int
  g : Int
  e : Int
  a : Int
deriving DecidableEq
abbrev NonceP := Int × Int
def Snt.n (x : Snt) : NonceP := (x.b, x.c)
/-- A call: what, agent, epoch, now, period, nonce. -/
structure CallQ where
  w : Int
  g : Int
  e : Int
  a : Int
  p : Int
  n : NonceP
def pushO (most : Int) (out : List Snt) (x : Snt) : List Snt := if most < ((out.length + 1 : Nat) : Int) then (out ++ [x]).drop 1 else out ++ [x]
def atO (out : List Snt) (n : NonceP) : Option Nat := out.findIdx? fun x => decide (x.n = n)
theorem pushO_sub (most : Int) (out : List Snt) (x : Snt) : (pushO most out x).Sublist (out ++ [x]) := by
  unfold pushO
  split
  · exact List.drop_sublist _ _
  · exact List.Sublist.refl _
theorem pushO_len {most : Int} {out : List Snt} {x : Snt} (h : (out.length : Int) ≤ most) : ((pushO most out x).length : Int) ≤ most := by
  unfold pushO
  split
  · rw [List.length_drop, List.length_append]; simp; omega
  · rw [List.length_append]; simp; omega
abbrev SentM := Es NonceP CallQ
abbrev DoneM := Es NonceP Int
/-- What holds between the calls. -/
structure PrI (boot most count : Int) (out : List Snt) (sent : SentM) (done : DoneM) : Prop where
  len : (out.length : Int) ≤ most
  ins : ∀ x ∈ out, x.b = boot ∧ x.c < count ∧ ∃ q, findX sent x.n = some q ∧ q.g = x.g ∧ q.e = x.e ∧ q.a = x.a
  nd : (out.map (·.n)).Nodup
  snt : ∀ n q, findX sent n = some q → n.1 = boot ∧ n.2 < count
  dn : ∀ n z, findX done n = some z → n.2 < count ∧ n ∉ out.map (·.n)
theorem PrI.nil {boot most : Int} (h : 0 ≤ most) : PrI boot most 0 [] [] [] :=
  ⟨h, fun x h => (by cases h), List.nodup_nil, fun n q h => (by cases h), fun n z h => (by cases h)⟩
theorem PrI.send {boot most count : Int} {out : List Snt} {sent : SentM} {done : DoneM} (h : PrI boot most count out sent done) (q : CallQ) (c : Nat) :
    findX sent (boot, count) = none ∧ PrI boot most (count + 1) (pushO most out ⟨boot, count, q.g, q.e, q.a⟩) (putX (boot, count) q c sent) done := by
  have hnew : findX sent (boot, count) = none := by
    cases hf : findX sent (boot, count) with
    | none => rfl
    | some z => have := (h.snt _ _ hf).2; simp only at this; omega
  have hsub := pushO_sub most out ⟨boot, count, q.g, q.e, q.a⟩
  have hmem : ∀ x ∈ pushO most out ⟨boot, count, q.g, q.e, q.a⟩, x ∈ out ∨ x = ⟨boot, count, q.g, q.e, q.a⟩ := fun x hx => by
    rcases List.mem_append.1 (hsub.subset hx) with g | g
    · exact .inl g
    · exact .inr (List.mem_singleton.1 g)
  refine ⟨hnew, pushO_len h.len, fun x hx => ?_, ?_, fun n z hz => ?_, fun n z hz => ?_⟩
  · rcases hmem x hx with g | g
    · obtain ⟨h1, h2, z, h3, h4⟩ := h.ins x g
      refine ⟨h1, by omega, z, ?_, h4⟩
      rw [findX_put, if_neg]
      · exact h3
      · intro e
        have : x.c = count := congrArg Prod.snd e
        omega
    · subst g
      exact ⟨rfl, by show count < count + 1; omega, q, by rw [findX_put]; exact if_pos rfl, rfl, rfl, rfl⟩
  · refine (hsub.map (·.n)).nodup ?_
    rw [List.map_append, List.nodup_append]
    refine ⟨h.nd, by simp, fun x hx y hy e => ?_⟩
    obtain ⟨z, hz, rfl⟩ := List.mem_map.1 hx
    have hy : y = (boot, count) := by simpa [Snt.n] using hy
    rw [hy] at e
    have : z.c = count := congrArg Prod.snd e
    have := (h.ins z hz).2.1
    omega
  · rw [findX_put] at hz
    split at hz
    · rename_i e
      rw [e]
      exact ⟨rfl, by show count < count + 1; omega⟩
    · have := h.snt n z hz
      exact ⟨this.1, by omega⟩
  · have := h.dn n z hz
    refine ⟨by omega, fun hm => ?_⟩
    obtain ⟨x, hx, rfl⟩ := List.mem_map.1 hm
    rcases hmem x hx with g | g
    · exact this.2 (List.mem_map_of_mem g)
    · subst g
      have : count < count := this.1
      omega
theorem atO_some {out : List Snt} {n : NonceP} {i : Nat} (h : atO out n = some i) : ∃ x, out[i]? = some x ∧ x.n = n := by
  unfold atO at h
  obtain ⟨h1, h2⟩ := findIdx_lt h
  exact ⟨out[i], List.getElem?_eq_getElem h1, of_decide_eq_true (h2 _ (List.getElem?_eq_getElem h1))⟩
theorem PrI.sub {boot most count : Int} {out out' : List Snt} {sent : SentM} {done : DoneM} (h : PrI boot most count out sent done) (hs : out'.Sublist out) : PrI boot most count out' sent done :=
  ⟨by have := hs.length_le; have := h.len; omega, fun x hx => h.ins x (hs.subset hx), (hs.map _).nodup h.nd, h.snt, fun n z hz => ⟨(h.dn n z hz).1, fun hm => (h.dn n z hz).2 ((hs.map _).subset hm)⟩⟩
theorem PrI.answer {boot most count : Int} {out : List Snt} {sent : SentM} {done : DoneM} (h : PrI boot most count out sent done) {n : NonceP} {i : Nat} {x : Snt} (hx : out[i]? = some x) (hn : x.n = n) (c : Nat) :
    findX done n = none ∧ (∃ q, findX sent n = some q ∧ q.g = x.g ∧ q.e = x.e ∧ q.a = x.a) ∧ PrI boot most count (out.take i ++ out.drop (i + 1)) sent (putX n 1 c done) := by
  have hm := List.mem_of_getElem? hx
  have hnew : findX done n = none := by
    cases hf : findX done n with
    | none => rfl
    | some z => exact absurd (by rw [← hn]; exact List.mem_map_of_mem hm) (h.dn _ _ hf).2
  have hj : out = out.take i ++ x :: out.drop (i + 1) := by
    have hl := (List.getElem?_eq_some_iff.1 hx).1
    have : out.drop i = x :: out.drop (i + 1) := by rw [List.drop_eq_getElem_cons hl]; congr 1; exact (List.getElem?_eq_some_iff.1 hx).2
    rw [← this, List.take_append_drop]
  have hsub : (out.take i ++ out.drop (i + 1)).Sublist out := by
    conv => rhs; rw [hj]
    exact List.Sublist.append (List.Sublist.refl _) (List.sublist_cons_self _ _)
  have hnot : n ∉ (out.take i ++ out.drop (i + 1)).map (·.n) := fun hm => by
    have hd := h.nd
    rw [hj, List.map_append, List.map_cons, List.nodup_append, List.nodup_cons] at hd
    rw [List.map_append, List.mem_append] at hm
    rcases hm with g | g
    · exact hd.2.2 n g x.n (List.mem_cons_self ..) hn.symm
    · exact hd.2.1.1 (by rw [hn]; exact g)
  have h' := h.sub hsub
  have ho := h.ins x hm
  refine ⟨hnew, by rw [← hn]; exact ho.2.2, h'.len, h'.ins, h'.nd, h'.snt, fun k z hz => ?_⟩
  rw [findX_put] at hz
  split at hz
  · rename_i e
    rw [e]
    exact ⟨by rw [← hn]; exact ho.2.1, hnot⟩
  · exact h'.dn k z hz
end Go.Proofs.Ytamomaihmfdebaa
/- Pieces of a slice of the call's own: cut out, appended in place, cleared, handed back. No program is named here. -/
namespace Go.Proofs.Ytamomaihmfdebaa
set_option linter.unusedSimpArgs false
set_option linter.unusedVariables false
open Go.RowKit
section
variable {P : Program} {w w' : World} {F F' : Nat → Prop} {ρ ρ' : Nat → Option Value} {H : Hp} {L : List AObj} {ty n t s b i lo hi k j mx : Nat} {rows : List (List D)} {x a1 a2 a3 sx xx : Operand} {kl kh km : IntKind}
/-- A piece of a slice. -/
def pcP (s lo hi : Nat) (h v : Value) : Prop := ∃ A m c, h = .slice A m c ∧ lo ≤ hi ∧ hi ≤ c ∧ v = .slice (if c = lo then A else A.map (·.add (lo * s))) (hi - lo) (c - lo)
theorem run_pc {s : Nat} (hk : (tiOf P t).kind = .sli) (hs : (tiOf P t).esize = s) (hp : 0 < s) {A : Option Addr} {m c : Nat} (vlo vhi : Option Value) (hlo : (vlo = none ∧ lo = 0) ∨ vlo = some (.int kl lo)) (hhi : (vhi = none ∧ hi = m) ∨ vhi = some (.int kh hi)) (h1 : lo ≤ hi) (h2 : hi ≤ c) :
    (Instr.slice t (.slice A m c) vlo vhi none).run P w = .ok (.slice (if c = lo then A else A.map (·.add (lo * s))) (hi - lo) (c - lo)) w := by
  obtain ⟨g1, g2, _⟩ := ti_sli hk
  rw [hs] at g2
  obtain ⟨i, g3, g4⟩ := info_of_cells g2 hp
  have a1 : ((lo : Int) ≤ (hi : Int)) := by omega
  have a2 : ((hi : Int) ≤ (c : Int)) := by omega
  rcases hlo with ⟨rfl, rfl⟩ | rfl <;> rcases hhi with ⟨rfl, rfl⟩ | rfl
  · simp [Instr.slice, run_underlying g1, Instr.sliceBounds, sizeOf, typeInfo, g3, g4]
  · simp [Instr.slice, run_underlying g1, Instr.sliceBounds, Instr.sliceBound, asIntOf, sizeOf, typeInfo, g3, g4, show hi ≤ c by omega]
  · simp [Instr.slice, run_underlying g1, Instr.sliceBounds, Instr.sliceBound, asIntOf, sizeOf, typeInfo, g3, g4, h1]
  · simp [Instr.slice, run_underlying g1, Instr.sliceBounds, Instr.sliceBound, asIntOf, sizeOf, typeInfo, g3, g4, h1, show hi ≤ c by omega]
theorem run_pc3 {s : Nat} (hk : (tiOf P t).kind = .sli) (hs : (tiOf P t).esize = s) (hp : 0 < s) {A : Option Addr} {m c : Nat} (h1 : lo ≤ hi) (h2 : hi ≤ mx) (h3 : mx ≤ c) :
    ∃ v, (Instr.slice t (.slice A m c) (some (.int kl lo)) (some (.int kh hi)) (some (.int km mx))).run P w = .ok v w := by
  obtain ⟨g1, g2, _⟩ := ti_sli hk
  rw [hs] at g2
  obtain ⟨i, g3, g4⟩ := info_of_cells g2 hp
  refine ⟨.slice (if mx = lo then A else A.map (·.add (lo * s))) (hi - lo) (mx - lo), ?_⟩
  simp [Instr.slice, run_underlying g1, Instr.sliceBounds, Instr.sliceBound, asIntOf, sizeOf, typeInfo, g3, g4, h1, h2, h3]
/-- An own slice as it lies. -/
theorem Env.ownAt (En : Env F ρ H w) (hi : H i = some (.sl s rows)) {v : Value} (hv : RA w F ρ (.own i) v) : ∃ A c vs, v = .slice A rows.length c ∧ ρ i = some v ∧ rows.length ≤ c ∧ Ow w 0 0 s (.slice A rows.length c) rows.length vs ∧ RDs w F rows.flatten vs ∧ ∀ r ∈ rows, r.length = s := by
  cases hv with | own hv =>
    rename_i A m c
    obtain ⟨hh, e1, ⟨vs, how, hra, hs1⟩, e3⟩ := En.rep i _ hi rfl
    rw [hv] at e1; injection e1 with e1; subst e1
    obtain ⟨A', c', he, g1, g2, hrd⟩ := how.form
    injection he with q1 q2 q3
    subst q1 q2 q3
    exact ⟨A, c, vs, rfl, hv, g1, how, hra, hs1⟩
/-- s[lo:hi:max], asked for its bounds alone. -/
theorem pc3 (s b : Nat) (h : slB P t s b = true) (hi' : L[i]? = some (.sl s rows)) (h1 : lo ≤ hi) (h2 : hi ≤ mx) (h3 : mx ≤ rows.length) : Does P (.slice t x (some a1) (some a2) (some a3)) ty L n [.own i, .d (.v (.int kl lo)), .d (.v (.int kh hi)), .d (.v (.int km mx))] ⟨[i], [], []⟩ .any := by
  obtain ⟨g1, g2, g3, _⟩ := slB_out h
  intro o H F ρ w ev ho ht En hrs hn hx
  have hi0 : H i = some (.sl s rows) := by rw [hrs i (by simp)]; exact hi'
  have hops : (Op.operands (.slice t x (some a1) (some a2) (some a3))).toList = [x, a1, a2, a3] := by simp [Op.operands]
  rw [hops] at hx
  cases hx with | cons hv hx => cases hx with | cons h4 hx => cases hx with | cons h5 hx => cases hx with | cons h6 hx =>
  obtain ⟨A, c, vs, e, _, hlc, _⟩ := En.ownAt hi0 hv
  obtain ⟨v, hrun⟩ := run_pc3 (P := P) (w := w) (kl := kl) (kh := kh) (km := km) (A := A) (m := rows.length) (c := c) g1 g2 g3 h1 h2 (Nat.le_trans h3 hlc)
  have hr : (execOp ev o).run P w = .ok (.value v) w := by
    simp [execOp, ho, e, h4.v_out, h5.v_out, h6.v_out, hrun, Instr.sliceAt, run_underlying (ti_sli g1).1]
  rw [hr]
  exact Post.same En (.any v)
theorem does_pcv (h : slB P t s b = true) {vlo vhi : Option Operand} (hi' : L[i]? = some (.sl s rows)) {xs : List AV} {c0 : Nat} (hx : ∀ (F : Nat → Prop) (ρ : Nat → Option Value) (w : World) (ev : Operand → Value) (H : Hp), Env F ρ H w → H i = some (.sl s rows) → RAs w F ρ xs ((Op.slice t x vlo vhi none).operands.toList.map ev) →
      ∃ A c hh, ev x = .slice A c0 c ∧ ρ i = some hh ∧ (∃ m, hh = .slice A m c) ∧ ((vlo.map ev = none ∧ lo = 0) ∨ vlo.map ev = some (.int kl lo)) ∧ ((vhi.map ev = none ∧ hi = c0) ∨ vhi.map ev = some (.int kh hi)) ∧ lo ≤ hi ∧ hi ≤ c) :
    Does P (.slice t x vlo vhi none) ty L n xs ⟨[i], [], []⟩ (.rel i (pcP s lo hi)) := by
  obtain ⟨g1, g2, g3, _⟩ := slB_out h
  intro o H F ρ w ev ho ht En hrs hn hxs
  have hi0 : H i = some (.sl s rows) := by rw [hrs i (by simp)]; exact hi'
  obtain ⟨A, c, hh, e1, e2, ⟨m, e3⟩, e4, e5, e6, e7⟩ := hx F ρ w ev H En hi0 hxs
  have hrun := run_pc (P := P) (w := w) (kl := kl) (kh := kh) (A := A) (m := c0) (c := c) g1 g2 g3 (vlo.map ev) (vhi.map ev) e4 e5 e6 e7
  have hr : (execOp ev o).run P w = .ok (.value (.slice (if c = lo then A else A.map (·.add (lo * s))) (hi - lo) (c - lo))) w := by
    simp [execOp, ho, e1, hrun, Instr.sliceAt, run_underlying (ti_sli g1).1]
  rw [hr]
  exact Post.same En (.rel e2 ⟨A, m, c, e3, e6, e7, rfl⟩)
/-- s[lo:], s[:hi], s[lo:hi] of an own slice. -/
theorem pcFrom (s b : Nat) (h : slB P t s b = true) (hi' : L[i]? = some (.sl s rows)) (h1 : lo ≤ rows.length) : Does P (.slice t x (some a1) none none) ty L n [.own i, .d (.v (.int kl lo))] ⟨[i], [], []⟩ (.rel i (pcP s lo rows.length)) :=
  does_pcv (kl := kl) (kh := .i64) (c0 := rows.length) h hi' fun F ρ w ev H En hi0 hx => by
    obtain ⟨v, u1, e', hv, hu1⟩ := hx.two_out
    simp [Op.operands] at e'
    obtain ⟨A, c, vs, e, e2, hlc, _⟩ := En.ownAt hi0 hv
    exact ⟨A, c, v, by rw [e'.1, e], e2, ⟨_, e⟩, .inr (by rw [Option.map_some, e'.2, hu1.v_out]), .inl ⟨rfl, rfl⟩, h1, hlc⟩
theorem pcUpto (s b : Nat) (h : slB P t s b = true) (hi' : L[i]? = some (.sl s rows)) (h1 : hi ≤ rows.length) : Does P (.slice t x none (some a1) none) ty L n [.own i, .d (.v (.int kh hi))] ⟨[i], [], []⟩ (.rel i (pcP s 0 hi)) :=
  does_pcv (kl := .i64) (kh := kh) (c0 := rows.length) h hi' fun F ρ w ev H En hi0 hx => by
    obtain ⟨v, u1, e', hv, hu1⟩ := hx.two_out
    simp [Op.operands] at e'
    obtain ⟨A, c, vs, e, e2, hlc, _⟩ := En.ownAt hi0 hv
    exact ⟨A, c, v, by rw [e'.1, e], e2, ⟨_, e⟩, .inl ⟨rfl, rfl⟩, .inr (by rw [Option.map_some, e'.2, hu1.v_out]), Nat.zero_le _, by omega⟩
/-- A piece of the beginning's, within what the slice has room for. -/
theorem pcOf (s b : Nat) (h : slB P t s b = true) (hi' : L[i]? = some (.sl s rows)) (h1 : lo ≤ hi) (h2 : hi ≤ rows.length) : Does P (.slice t x (some a1) (some a2) none) ty L n [.rel i (pcP s 0 k), .d (.v (.int kl lo)), .d (.v (.int kh hi))] ⟨[i], [], []⟩ (.rel i (pcP s lo hi)) :=
  does_pcv (kl := kl) (kh := kh) (c0 := k) h hi' fun F ρ w ev H En hi0 hx => by
    obtain ⟨v, u1, u2, e', hv, hu1, hu2⟩ := hx.three_out
    simp [Op.operands] at e'
    cases hv with | rel e2 hp =>
      rename_i hh
      obtain ⟨A, m, c, rfl, q1, q2, rfl⟩ := hp
      obtain ⟨A', c', vs, e, _, hlc, _⟩ := En.ownAt hi0 (.own e2)
      injection e with r1 r2 r3
      subst r3
      refine ⟨A, c, _, ?_, e2, ⟨_, rfl⟩, .inr (by rw [Option.map_some, e'.2.1, hu1.v_out]), .inr (by rw [Option.map_some, e'.2.2, hu2.v_out]), h1, by omega⟩
      rw [e'.1]
      have hA : (if c = 0 then A else A.map (·.add (0 * s))) = A := by
        split
        · rfl
        · cases A <;> simp [Addr.add]
      rw [hA, Nat.sub_zero, Nat.sub_zero]
/-- A piece's length. -/
theorem pcLen (s b : Nat) (h : slB P t s b = true) : Does P (.call { callee := .builtin .len, args := #[x], argTypes := #[t] }) ty L n [.rel i (pcP s lo hi)] ⟨[], [], []⟩ (.d (.v (.int .i64 ((hi - lo : Nat) : Int)))) := by
  obtain ⟨g1, g2, g3, _⟩ := slB_out h
  intro o H F ρ w ev ho ht En hrs hn hx
  have hops : (Op.operands (.call { callee := .builtin .len, args := #[x], argTypes := #[t] })).toList = [x] := by simp [Op.operands, Call.operands]
  rw [hops] at hx
  obtain ⟨v, e', hv⟩ := hx.one_out
  simp at e'
  cases hv with | rel e2 hp =>
    obtain ⟨A, m, c, rfl, q1, q2, rfl⟩ := hp
    have hr : (execOp ev o).run P w = .ok (.value (.int .i64 ((hi - lo : Nat) : Int))) w := by
      simp [execOp, ho, resolve, invoke, builtin, e', Builtin.len_, run_underlying (ti_sli g1).1, goInt]
    rw [hr]
    exact Post.same En (.d (.v _))
theorem info_sl (h : slB P t s b = true) : ∃ e i z, P.underlying t = some (.slice e) ∧ e = (tiOf P t).elem ∧ P.info? e = some i ∧ i.zero = some z ∧ i.size = s ∧ i.bytes = b ∧ z.cells.size = s ∧ (tiOf P e).zero = z.cells.toList ∧ (∀ v ∈ z.cells.toList, v.oneCell' = true) ∧ 0 < s := by
  obtain ⟨g1, g2, g3, g4, _, g5⟩ := slB_out h
  obtain ⟨i, z, e1, e2, e3, e4, e5, e6, e7, e8⟩ := ti_elem g1 (by omega) g5
  exact ⟨_, i, z, e1, rfl, e2, e3, by rw [e4, g2], by rw [e5, g4], by rw [e6, g2], e7, e8, g3⟩
/-- Cells that are set within an own slice, as rows. -/
theorem Env.setsAt (En : Env F ρ H w) {hh : Value} (hi : H i = some (.sl s rows)) (hρ : ρ i = some hh) {g off c q : Nat} (e : hh = .slice (some ⟨g, off, none⟩) rows.length c) {vs us : List Value} (how : Ow w 0 0 s hh rows.length vs) (hle : q + us.length ≤ vs.length) {rows' : List (List D)} (hl : rows'.length = rows.length) (hs : ∀ r ∈ rows', r.length = s) (hr : RDs w F rows'.flatten (sets vs q us)) :
    Step F ρ H w F ρ (updF H i (some (.sl s rows'))) (w.setCells g (off + q) us) ∧ Env F ρ (updF H i (some (.sl s rows'))) (w.setCells g (off + q) us) := by
  subst e
  have hnF : ¬ F g := by
    obtain ⟨h0, e0, _, hk⟩ := En.rep i _ hi rfl
    rw [hρ] at e0; injection e0 with e0; subst e0
    exact (hk g rfl).2
  refine En.upd hi rfl hρ (setCells_grown g (off + q) us w) ⟨sets vs q us, ?_, ?_, hs⟩
  · rw [hl]; exact how.sets hle
  · exact hr.mono (fun b hb => setCells_heap g _ _ w b fun e => hnF (e ▸ hb)) (fun _ h => h)
theorem own_some {hh : Value} {vs : List Value} (how : Ow w 0 0 s hh rows.length vs) (h0 : 0 < rows.length) {A : Option Addr} {m c : Nat} (e : hh = .slice A m c) : ∃ g off, A = some ⟨g, off, none⟩ ∧ m = rows.length ∧ (∀ j, j < c * s → (w.cell? ⟨g, off + j, none⟩).isSome = true ∧ w.frozen? ⟨g, off + j, none⟩ = false) ∧ (∀ j (h : j < vs.length), w.cell? ⟨g, off + j, none⟩ = some vs[j]) ∧ rows.length ≤ c := by
  obtain ⟨g, off, cap, he, _, _, hnc, _, hroom, hx⟩ := how.open_ h0
  rw [e] at he
  injection he with q1 q2 q3
  subst q1 q2 q3
  exact ⟨g, off, rfl, rfl, hroom, hx, hnc⟩
/-- append(s[:k], s[j:]...): in place. -/
theorem pcApp (s b : Nat) (h : slB P t s b = true) (hi' : L[i]? = some (.sl s rows)) (h1 : k ≤ j) (h2 : j ≤ rows.length) (h0 : 0 < rows.length) : Does P (.call { callee := .builtin .append, args := #[sx, xx], argTypes := #[t, t] }) ty L n [.rel i (pcP s 0 k), .rel i (pcP s j rows.length)]
    ⟨[i], [(i, .sl s (rows.take k ++ rows.drop j ++ rows.drop (k + (rows.length - j))))], []⟩ (.rel i (pcP s 0 (k + (rows.length - j)))) := by
  obtain ⟨e, i0, z, u1, _, u2, u3, u4, u5, u6, u7, u8, hs0⟩ := info_sl h
  intro o H F ρ w ev ho ht En hrs hn hx
  have hops : (Op.operands (.call { callee := .builtin .append, args := #[sx, xx], argTypes := #[t, t] })).toList = [sx, xx] := by simp [Op.operands, Call.operands]
  rw [hops] at hx
  have hi0 : H i = some (.sl s rows) := by rw [hrs i (by simp)]; exact hi'
  obtain ⟨v1, v2, e', hv1, hv2⟩ := hx.two_out
  simp at e'
  cases hv1 with | rel e1 hp1 => cases hv2 with | rel e2 hp2 =>
    rename_i hh _
    rw [e1] at e2; injection e2 with e2; subst e2
    obtain ⟨hh', e3, ⟨vs, how, hra, hs1⟩, e4⟩ := En.rep i _ hi0 rfl
    rw [e1] at e3; injection e3 with e3; subst e3
    obtain ⟨A, m, c, rfl, q1, q2, rfl⟩ := hp1
    obtain ⟨A', m', c', er, q3, q4, rfl⟩ := hp2
    injection er with r1 r2 r3
    subst r1 r2 r3
    obtain ⟨g, off, rfl, rfl, hroom, hcell, hnc⟩ := own_some how h0 rfl
    have hvl : vs.length = rows.length * s := how.1
    have hA : (if c = 0 then (some ⟨g, off, none⟩ : Option Addr) else (some ⟨g, off, none⟩ : Option Addr).map (·.add (0 * s))) = some ⟨g, off, none⟩ := by
      split
      · rfl
      · simp [Addr.add]
    rw [hA, Nat.sub_zero, Nat.sub_zero] at e'
    have hjs : j * s ≤ rows.length * s := Nat.mul_le_mul_right _ h2
    have hks : k * s ≤ j * s := Nat.mul_le_mul_right _ h1
    have hcs : rows.length * s ≤ c * s := Nat.mul_le_mul_right _ hnc
    have hnl : (vs.drop (j * s)).length = (rows.length - j) * s := by rw [List.length_drop, hvl, Nat.sub_mul]
    have hvone := hra.one
    have hrun := run_append_room_cells (P := P) w t o.type e i0 u1 u2 g off k c (if c = j then ⟨g, off, none⟩ else (⟨g, off, none⟩ : Addr).add (j * s)) (rows.length - j) (c - j) (vs.drop (j * s)) (by rw [hnl, u4])
      (fun q u hu => by
        obtain ⟨hq1, hq2⟩ := List.getElem?_eq_some_iff.1 hu
        rw [hnl] at hq1
        by_cases hcj : c = j
        · have : rows.length - j = 0 := by omega
          rw [this, Nat.zero_mul] at hq1; omega
        · rw [if_neg hcj, Addr.add_lit, Addr.add_lit]
          rw [List.getElem_drop] at hq2
          have := hcell (j * s + q) (by rw [hvl]; rw [Nat.sub_mul] at hq1; omega)
          rw [hq2] at this
          rw [← this, Nat.add_assoc])
      (fun u hu => hvone u (List.mem_of_mem_drop hu)) (by omega)
      (fun q hq => by rw [hnl] at hq; rw [u4, Nat.add_assoc]; exact (hroom _ (by rw [Nat.sub_mul] at hq; omega)).1)
      (fun q hq => by rw [hnl] at hq; rw [u4, Nat.add_assoc]; exact (hroom _ (by rw [Nat.sub_mul] at hq; omega)).2)
    rw [u4] at hrun
    have hA2 : (if c = j then (some ⟨g, off, none⟩ : Option Addr) else (some ⟨g, off, none⟩ : Option Addr).map (·.add (j * s))) = some (if c = j then ⟨g, off, none⟩ else (⟨g, off, none⟩ : Addr).add (j * s)) := by split <;> rfl
    rw [hA2] at e'
    have hr : (execOp ev o).run P w = .ok (.value (.slice (some ⟨g, off, none⟩) (k + (rows.length - j)) c)) (w.setCells g (off + k * s) (vs.drop (j * s))) := by
      simp [execOp, ho, resolve, invoke, builtin, e'.1, e'.2] at hrun ⊢
      simp [hrun]
    rw [hr]
    have hsets : sets vs (k * s) (vs.drop (j * s)) = vs.take (k * s) ++ vs.drop (j * s) ++ vs.drop (k * s + (rows.length - j) * s) := by
      rw [sets_eq _ _ _ (by rw [hnl, hvl, Nat.sub_mul]; omega), hnl]
    obtain ⟨S1, E1⟩ := En.setsAt (rows' := rows.take k ++ rows.drop j ++ rows.drop (k + (rows.length - j))) hi0 e1 rfl how (q := k * s) (us := vs.drop (j * s)) (by rw [hnl, hvl, Nat.sub_mul]; omega)
      (by simp only [List.length_append, List.length_take, List.length_drop]; omega)
      (fun r hr => by
        rcases List.mem_append.1 hr with hr | hr
        · rcases List.mem_append.1 hr with hr | hr
          · exact hs1 r (List.mem_of_mem_take hr)
          · exact hs1 r (List.mem_of_mem_drop hr)
        · exact hs1 r (List.mem_of_mem_drop hr))
      (by
        rw [hsets, List.flatten_append, List.flatten_append, flat_take hs1, flat_drop hs1, flat_drop hs1, Nat.add_mul]
        exact ((hra.take _).app (hra.drop _)).app (hra.drop _))
    refine ⟨F, ρ, S1, Keep.refl _, E1, .rel e1 ⟨_, _, _, rfl, Nat.zero_le _, by omega, ?_⟩⟩
    rw [hA, Nat.sub_zero, Nat.sub_zero]
/-- A zero row. -/
def zrow (P : Program) (t : TypeId) : List D := (tiOf P (tiOf P t).elem).zero.map .v
theorem rds_zero {us : List Value} (h : ∀ v ∈ us, v.oneCell' = true) : RDs w F (us.map .v) us := by
  induction us with
  | nil => exact .nil
  | cons u us ih => exact .cons (.v u) (h u (List.mem_cons_self ..)) (ih fun v hv => h v (List.mem_cons_of_mem _ hv))
theorem zeros_get {z : Array Value} {q : Nat} (hz : 0 < z.size) : (Builtin.zeroCells z q).toList = (List.replicate q z.toList).flatten := by
  unfold Builtin.zeroCells
  rw [Array.toList_map, Array.toList_range]
  induction q with
  | zero => simp
  | succ q ih =>
    rw [Nat.succ_mul, List.range_add, List.map_append, ih, List.replicate_succ', List.flatten_append, List.flatten_singleton]
    congr 1
    rw [List.map_map]
    apply List.ext_getElem
    · simp
    · intro j h1 h2
      simp only [List.length_map, List.length_range] at h1
      simp only [List.getElem_map, List.getElem_range, Function.comp_apply]
      rw [Nat.mul_comm, Nat.mul_add_mod, Nat.mod_eq_of_lt h1]
      simp [h1]
/-- clear of a piece. -/
theorem pcClear (s b : Nat) (h : slB P t s b = true) (hi' : L[i]? = some (.sl s rows)) (h2 : hi ≤ rows.length) (h0 : 0 < rows.length) : Does P (.call { callee := .builtin .clear, args := #[x], argTypes := #[t] }) ty L n [.rel i (pcP s lo hi)]
    ⟨[i], [(i, .sl s (rows.take lo ++ List.replicate (hi - lo) (zrow P t) ++ rows.drop hi))], []⟩ (.tup []) := by
  obtain ⟨e, i0, z, u1, ue, u2, u3, u4, u5, u6, u7, u8, hs0⟩ := info_sl h
  intro o H F ρ w ev ho ht En hrs hn hx
  have hops : (Op.operands (.call { callee := .builtin .clear, args := #[x], argTypes := #[t] })).toList = [x] := by simp [Op.operands, Call.operands]
  rw [hops] at hx
  have hi0 : H i = some (.sl s rows) := by rw [hrs i (by simp)]; exact hi'
  obtain ⟨v1, e', hv1⟩ := hx.one_out
  simp at e'
  cases hv1 with | rel e1 hp1 =>
    rename_i hh
    obtain ⟨hh', e3, ⟨vs, how, hra, hs1⟩, e4⟩ := En.rep i _ hi0 rfl
    rw [e1] at e3; injection e3 with e3; subst e3
    obtain ⟨A, m, c, rfl, q1, q2, rfl⟩ := hp1
    obtain ⟨g, off, rfl, rfl, hroom, hcell, hnc⟩ := own_some how h0 rfl
    have hvl : vs.length = rows.length * s := how.1
    have hzr : (zrow P t).length = s := by unfold zrow; rw [List.length_map, ← ue, u7]; simp [u6]
    have hrows : ∀ r ∈ rows.take lo ++ List.replicate (hi - lo) (zrow P t) ++ rows.drop hi, r.length = s := fun r hr => by
      rcases List.mem_append.1 hr with hr | hr
      · rcases List.mem_append.1 hr with hr | hr
        · exact hs1 r (List.mem_of_mem_take hr)
        · rw [(List.mem_replicate.1 hr).2]; exact hzr
      · exact hs1 r (List.mem_of_mem_drop hr)
    have hlen : (rows.take lo ++ List.replicate (hi - lo) (zrow P t) ++ rows.drop hi).length = rows.length := by
      simp only [List.length_append, List.length_take, List.length_drop, List.length_replicate]; omega
    have hz0 : (zeroValue e).run P w = .ok z w := by simp [zeroValue, typeInfo, u2, u3]
    by_cases hlh : lo = hi
    · subst hlh
      have hr : (execOp ev o).run P w = .ok (.value (.tuple #[])) w := by
        rw [Nat.sub_self] at e'
        have hA2 : (if c = lo then (some ⟨g, off, none⟩ : Option Addr) else (some ⟨g, off, none⟩ : Option Addr).map (·.add (lo * s))) = some (if c = lo then ⟨g, off, none⟩ else (⟨g, off, none⟩ : Addr).add (lo * s)) := by split <;> rfl
        rw [hA2] at e'
        simp [execOp, ho, resolve, invoke, builtin, e', Builtin.clear_, run_underlying u1]
      rw [hr]
      have er : rows.take lo ++ List.replicate (lo - lo) (zrow P t) ++ rows.drop lo = rows := by simp
      rw [er]
      have hH : updF H i (some (.sl s rows)) = H := by
        funext q
        by_cases hq : q = i
        · subst hq; rw [updF_same, hi0]
        · rw [updF_ne _ _ hq]
      show Post F ρ H w (updF H i (some (.sl s rows))) _ _ _
      rw [hH]
      exact Post.same En (.tup .nil)
    · have hcl : ¬ c = lo := by omega
      rw [if_neg hcl] at e'
      have hus : (Builtin.zeroCells z.cells (hi - lo)).toList = (List.replicate (hi - lo) z.cells.toList).flatten := zeros_get (by omega)
      have hul : (List.replicate (hi - lo) z.cells.toList).flatten.length = (hi - lo) * s := by simp [List.length_flatten, u6]
      have huo : ∀ u ∈ (List.replicate (hi - lo) z.cells.toList).flatten, u.oneCell' = true := fun u hu => by
        obtain ⟨l, hl, hu⟩ := List.mem_flatten.1 hu
        rw [(List.mem_replicate.1 hl).2] at hu
        exact u8 u hu
      have hls : lo * s ≤ hi * s := Nat.mul_le_mul_right _ (by omega)
      have hhs : hi * s ≤ rows.length * s := Nat.mul_le_mul_right _ h2
      have hcs : rows.length * s ≤ c * s := Nat.mul_le_mul_right _ hnc
      generalize hU : (List.replicate (hi - lo) z.cells.toList).flatten = U at *
      have hst := run_storeCells_cells (P := P) g (off + lo * s) U 0 w
        (fun q hq => by rw [hul] at hq; rw [Nat.add_zero, Nat.add_assoc]; exact (hroom _ (by rw [Nat.sub_mul] at hq; omega)).1)
        (fun q hq => by rw [hul] at hq; rw [Nat.add_zero, Nat.add_assoc]; exact (hroom _ (by rw [Nat.sub_mul] at hq; omega)).2) huo
      rw [Nat.add_zero] at hst
      have hr : (execOp ev o).run P w = .ok (.value (.tuple #[])) (w.setCells g (off + lo * s) U) := by
        have hne : ∃ d, hi - lo = d + 1 := ⟨hi - lo - 1, by omega⟩
        obtain ⟨d, hd⟩ := hne
        rw [hd] at e' hus
        simp [execOp, ho, resolve, invoke, builtin, e', Builtin.clear_, run_underlying u1, hz0, Addr.add_lit, hus, hst]
      rw [hr]
      obtain ⟨S1, E1⟩ := En.setsAt (rows' := rows.take lo ++ List.replicate (hi - lo) (zrow P t) ++ rows.drop hi) hi0 e1 rfl how (q := lo * s) (us := U) (by rw [hul, hvl, Nat.sub_mul]; omega) hlen hrows
        (by
          rw [sets_eq _ _ _ (by rw [hul, hvl, Nat.sub_mul]; omega), hul, List.flatten_append, List.flatten_append, flat_take hs1, flat_drop hs1]
          have e1 : lo * s + (hi - lo) * s = hi * s := by rw [Nat.sub_mul]; omega
          rw [e1]
          refine ((hra.take _).app ?_).app (hra.drop _)
          have e2 : (List.replicate (hi - lo) (zrow P t)).flatten = U.map .v := by
            rw [← hU]
            unfold zrow
            rw [← ue, u7, List.map_flatten, List.map_replicate]
          rw [e2]
          exact rds_zero huo)
      exact ⟨F, ρ, S1, Keep.refl _, E1, .tup .nil⟩
/-- A piece from the beginning on, handed back: an own slice from now on. -/
theorem Sat.ofPc {g : FuncId} {args : List AV} {rows' : List (List D)} (h : Sat P g args [.sl s rows] (.rel 0 (pcP s 0 k)) [.sl s rows']) (hk : k ≤ rows'.length) : Sat P g args [.sl s rows] (.own 1) [.dead, .sl s (rows'.take k)] := by
  intro F ρ w vals En hv
  refine (h F ρ w vals En hv).mono ?_
  rintro e w' ⟨v, he, F', ρ', S, K, E', hr⟩
  cases hr with | rel e1 hp =>
    obtain ⟨A, m, c, rfl, q1, q2, rfl⟩ := hp
    have hi0 : hp [AObj.sl s rows'] 0 = some (.sl s rows') := rfl
    obtain ⟨hh, e3, ⟨vs, how, hra, hs1⟩, e4⟩ := E'.rep 0 _ hi0 rfl
    rw [e1] at e3; injection e3 with e3; subst e3
    obtain ⟨A', c', eq, g1, g2, hrd⟩ := how.form
    injection eq with r1 r2 r3
    subst r1 r2 r3
    have hA : (if c = 0 then A else A.map (·.add (0 * s))) = A := by
      split
      · rfl
      · cases A <;> simp [Addr.add]
    rw [hA, Nat.sub_zero, Nat.sub_zero] at he
    have how' : Ow w' 0 0 s (.slice A k c) k (vs.take (k * s)) := by
      cases A with
      | some a => exact how.take hk (by simp)
      | none =>
        rcases how.2 with ⟨q, q0⟩ | ⟨a, q, _⟩ | ⟨g, off, cap, q, _⟩
        · injection q with _ q1 q2
          subst q2
          have : k = 0 := by omega
          subst this
          simpa using Ow.nil w' 0 0 s
        · injection q with q; cases q
        · injection q with q; cases q
    have hn0 : hp [AObj.sl s rows'] 1 = none := rfl
    obtain ⟨S1, K1, E1⟩ := E'.swap (n := 1) (o' := .sl s (rows'.take k)) (h' := .slice A k c) hi0 rfl e1 hn0 (World.grownBy.refl w' _) (fun b hb => .inr (by
      cases A with
      | none => simp [blkOf] at hb
      | some a => simpa [blkOf] using hb)) ⟨_, by
        rw [List.length_take, Nat.min_eq_left hk]; exact how', by
        rw [flat_take hs1]; exact (hra.take _).mono (fun _ _ => rfl) (fun _ h => h), fun r hr => hs1 r (List.mem_of_mem_take hr)⟩
    have eh : updF (updF (hp [AObj.sl s rows']) 0 (some .dead)) 1 (some (.sl s (rows'.take k))) = hp [.dead, .sl s (rows'.take k)] := by
      funext q
      match q with
      | 0 => rfl
      | 1 => rfl
      | q + 2 => rfl
    rw [eh] at S1 E1
    exact ⟨_, he, F', _, S.trans S1, K.trans K1, E1, .own (updF_same _ _ _)⟩
end
end Go.Proofs.Ytamomaihmfdebaa
/- Ranges over maps of the call's own that nothing is put into meanwhile. No program is named here. -/
namespace Go.Proofs.Ytamomaihmfdebaa
set_option linter.unusedSimpArgs false
set_option linter.unusedVariables false
open Go.RowKit
set_option linter.unusedSectionVars false
section
variable {P : Program} {w w' : World} {F F' : Nat → Prop} {ρ ρ' : Nat → Option Value} {H : Hp} {L : List AObj} {ty n : Nat} {κ ν : Type} [DecidableEq κ] {ek : κ → D} {ev : ν → D} {m : Es κ ν} {c : Nat} {t kt et : TypeId} {i j : Nat} {k : κ} {v : ν} {mx kx vx : Operand}
/-! ### ranges -/
/-- An iterator over the map i: entries laid before 'since' were there, those born at 'seen' have come, 'last' is the clock of the last step. -/
def itP (since : Nat) (seen : List Nat) (last : Nat) (u : Value) (o : Obj) : Prop := ∃ g, u = .map (some g) ∧ o = .mapIter (some g) since seen.toArray last
abbrev itO (i since : Nat) (seen : List Nat) (last : Nat) : AObj := .iter (.mp i) (itP since seen last)
end
end Go.Proofs.Ytamomaihmfdebaa
/- What the conditions need of the program's tables. -/
namespace Go.Proofs.Ytamomaihmfdebaa
set_option linter.unusedSimpArgs false
set_option linter.unusedVariables false
theorem tf {p : Prop} : true = false → p := fun h => Bool.noConfusion h
theorem ft {p : Prop} : false = true → p := fun h => Bool.noConfusion h
theorem hm0 : Try.prog.follows .mixedOrders = true := by kernel_rfl
def E0 (g : Nat) : Bool := Nat.blt g 18 && !(Nat.beq g 0) && !(Nat.beq g 1)
theorem E0_all : ((List.range 18).all fun g => !(E0 g) || entersB Try.prog g) = true := by kernel_rfl
theorem hE0 : ∀ g, E0 g = true → entersB Try.prog g = true := fun g h => by
  have hlt : g < 18 := by simp [E0, Nat.blt_eq] at h; omega
  have := List.all_eq_true.1 E0_all g (List.mem_range.2 hlt)
  simpa [h] using this
end Go.Proofs.Ytamomaihmfdebaa
/- From the walk of a law to its statement: the part that is alike for all laws. No program is named here. -/
namespace Go.Proofs.Ytamomaihmfdebaa
set_option linter.unusedSimpArgs false
set_option linter.unusedVariables false
open Go.ChangeShapes Go.WideShapes Go.ChangeAt Go.RowKit

section
variable {H : Type} {enc : TypeId × Value → H} {P : Program}
theorem trodAll_below (hl : laidOutB P = true) {W W' : World} (hb : Below W.heap.size W W') : ∀ {ts : List TypeId}, (ts.all fun t => P.readableRec t && decide (t < P.types.size)) = true → ∀ {vs : List Value} {ds : List (DataW H)} {ps : List MemPlace},
    DataW.TrodAll enc P W 0 (fun _ => true) true ts vs ds ps → DataW.TrodAll enc P W' 0 (fun b => decide (b < W.heap.size)) true ts vs ds ps := by
  intro ts
  induction ts with
  | nil =>
    intro _ vs ds ps h
    obtain ⟨rfl, rfl, rfl⟩ := trodAll_nil h
    exact trodAll_mk0
  | cons t ts ih =>
    intro hts vs ds ps h
    obtain ⟨v, vs', d, ds', p, q, rfl, rfl, rfl, h0, r0⟩ := trodAll_cons h
    simp only [List.all_cons, Bool.and_eq_true, decide_eq_true_eq] at hts
    have lt0 : ∀ x ∈ p, x.block < W.heap.size := by obtain ⟨m, hm⟩ := h0; exact DataW.trod_lt m _ _ _ hm
    refine trodAll_cons_mk (Below.trod hl hts.1.1 hts.1.2 h0 hb lt0) (ih ?_ r0)
    simpa using hts.2

theorem trodAll_length {w : World} {base : Nat} {spare : Nat → Bool} {held : Bool} : ∀ {ts : List TypeId} {vs : List Value} {ds : List (DataW H)} {ps : List MemPlace}, DataW.TrodAll enc P w base spare held ts vs ds ps → ds.length = ts.length := by
  intro ts
  induction ts with
  | nil =>
    intro vs ds ps h
    obtain ⟨rfl, rfl, rfl⟩ := trodAll_nil h
    rfl
  | cons t ts ih =>
    intro vs ds ps h
    obtain ⟨v, vs', d, ds', p, q, rfl, rfl, rfl, h0, r0⟩ := trodAll_cons h
    simp [ih r0]

/-- What the walk of a law must show: from whatever arguments that read as data, true comes back, and nothing that was there has turned. -/
def LawWalk (H : Type) (enc : TypeId × Value → H) (P : Program) (F : FuncId) (fn : Func) : Prop :=
  ∀ (W : World) (base : Nat) (args : Array Value) (ds : List (DataW H)) (p : List MemPlace),
    (∀ (j : Nat) t v, fn.params[j]? = some t → args[j]? = some v → Value.okWide P W .any base t v) →
    DataW.TrodAll enc P W 0 (fun _ => true) true fn.params.toList args.toList ds p →
    (DataW.weightsEach P fn.params.toList ds).all (· ≤ reachBytes) = true →
    Calls P F args W fun e W' => e = .returned (.bool true) ∧ Below W.heap.size W W'

theorem lift_law {C : Checked} {os : Os} {F : FuncId} {fn : Func} {s : ChangeSpec} {bT : TypeId} (laid : laidOutB C.prog = true) (own : ownKnob C.prog.godebug = none) (started : os.Started) (noInit : C.prog.inits.idxOf? F = none)
    (hfn : C.prog.funcs[F]? = some fn) (hts : (fn.params.toList.all fun t => C.prog.readableRec t && decide (t < C.prog.types.size)) = true) (hbT : C.prog.underlying bT = some .bool) (hres : fn.resultTypes = #[bT])
    (hvars : s.vars = []) (hs : ∀ ds : List (DataW H), ds.length = fn.params.toList.length → s.fn H ds = { results := [.lit (.bool true)], args := ds })
    (witness : ∃ (w : World) (tape : Tape) (i : Input), w.os = os ∧ (w.forCall tape i).Shaped C.prog ∧ i.vars = [] ∧ Input.okWide C.prog (w.forCall tape i) .any w.heap.size F i ∧
      s.pre6 enc C.prog fn [] false (w.forCall tape i).memory i.args ∧ Assume.holds {} C.prog (lone (Frame.enter C.prog F i.args .normal) [] (w.forCall tape i)))
    (walk : LawWalk H enc C.prog F fn) :
    ReturnsInHanded {} C os F .any (s.pre6 enc C.prog fn [] false) (s.post enc C.prog fn false true false false) := by
  refine returnsInHanded_of_change_sized own started noInit hfn witness ?_
  intro W base args ds gs before hval hW _ hsz _
  have hW' := hW
  obtain ⟨p, q, hA, hV, rfl, hfz, hnd⟩ := hW
  rw [hvars] at hV
  obtain ⟨rfl, rfl⟩ := trodVars_none hV
  have hvt : s.plain.varTypes C.prog = [] := by simp [ChangeSpec.plain, DataSpec.varTypes, hvars]
  rw [hvt, List.append_nil, List.append_nil] at hsz
  refine (walk W base args ds p hval hA hsz).mono fun e W' ⟨he, bel⟩ => ?_
  subst he
  have hd := trodAll_length hA
  have hsp := hs ds hd
  refine ⟨_, rfl, ds, [], p ++ [], [], p, [], hW', ?_, ?_, ?_, bel.frame _, fun h => by cases h⟩
  · rw [List.append_nil, hsp, hres]
    exact trodAll_mk1 (shut_bool hbT _)
  · rw [List.append_nil, hsp]
    exact trodAll_below laid bel hts hA
  · rw [List.append_nil, hsp, hvars]
    rfl
end

/-! ### arguments -/
section
variable {H : Type} {enc : TypeId × Value → H} {P : Program} {w : World}
end
end Go.Proofs.Ytamomaihmfdebaa
/- The arguments of a law, as data; from a law's contract to its statement. No program is named here. -/
namespace Go.Proofs.Ytamomaihmfdebaa
set_option linter.unusedSimpArgs false
set_option linter.unusedVariables false
open Go.ChangeShapes Go.WideShapes Go.ChangeAt Go.RowKit
def tileB (P : Program) : List Field → Nat → Nat → Bool
  | [], o, tot => Nat.beq o tot
  | f :: r, o, tot => Nat.beq f.offset o && tileB P r (o + P.cellsOf f.type) tot
/-- Types of plain data. -/
def supB (P : Program) : Nat → TypeId → Bool
  | 0, _ => false
  | m + 1, t => match P.underlying t with
    | some .bool => true
    | some (.int _) => true
    | some .string => true
    | some (.slice e) => supB P m e && Nat.blt 0 (P.cellsOf e)
    | some (.struct fs) => tileB P fs.toList 0 (P.cellsOf t) && fs.toList.all fun f => supB P m f.type
    | some (.array n e) => supB P m e && Nat.beq (n * P.cellsOf e) (P.cellsOf t)
    | _ => false
def TyAll (p : TypeId → List D → Prop) : List TypeId → List (List D) → Prop
  | [], dss => dss = []
  | t :: ts, dss => ∃ d r, dss = d :: r ∧ p t d ∧ TyAll p ts r
/-- What cells of a type of plain data look like. -/
def TyB (p : TypeId → List D → Prop) (P : Program) (t : TypeId) (ds : List D) : Prop :=
  match P.underlying t with
    | some .bool => ∃ b, ds = [.v (.bool b)]
    | some (.int k) => ∃ z, ds = [.v (.int k z)] ∧ (Lit.int k z).wf = true
    | some .string => ∃ s, ds = [.v (.string s)] ∧ s.size ≤ reachBytes
    | some (.slice e) => ∃ rows, ds = [.sl (P.cellsOf e) rows] ∧ (∀ r ∈ rows, p e r) ∧ rows.length * P.bytesOf e ≤ reachBytes
    | some (.struct fs) => ∃ dss, ds = dss.flatten ∧ TyAll p (fs.toList.map (·.type)) dss
    | some (.array n e) => ∃ dss : List (List D), ds = dss.flatten ∧ dss.length = n ∧ ∀ d ∈ dss, p e d
    | _ => False
def Ty (P : Program) : Nat → TypeId → List D → Prop
  | 0 => fun _ _ => False
  | m + 1 => TyB (Ty P m) P
theorem Ty.of {P : Program} {m : Nat} {t : TypeId} {ds : List D} {d : TypeDesc} (hu : P.underlying t = some d) (h : P.underlying t = some d → TyB (Ty P m) P t ds) : Ty P (m + 1) t ds := h hu
section
variable {H : Type} {enc : TypeId × Value → H} {P : Program} {w : World} {base : Nat}
theorem mapM_get {α β : Type} {f : α → Option β} : ∀ {l : List α} {ys : List β}, l.mapM f = some ys → ys.length = l.length ∧ ∀ (i : Nat) (x : α), l[i]? = some x → ∃ y, ys[i]? = some y ∧ f x = some y
  | [], ys, h => by simp at h; subst h; exact ⟨rfl, fun i x h => by simp at h⟩
  | a :: l, ys, h => by
    simp only [List.mapM_cons, Option.bind_eq_bind, Option.pure_def, Option.bind_eq_some_iff, Option.some.injEq] at h
    obtain ⟨y, h1, zs, h2, rfl⟩ := h
    obtain ⟨h3, h4⟩ := mapM_get h2
    refine ⟨by simp [h3], fun i x hx => ?_⟩
    cases i with
    | zero => simp at hx; subst hx; exact ⟨y, rfl, h1⟩
    | succ i => simpa using h4 i x (by simpa using hx)
def Fall (w : World) (b : Nat) : Prop := b < w.heap.size
theorem weightsAll_mem {e : TypeId} : ∀ {ds : List (DataW H)} {d : DataW H}, d ∈ ds → ∀ x ∈ d.weights P e, x ∈ DataW.weightsAll P e ds
  | [], _, h, _, _ => by simp at h
  | a :: r, d, h, x, hx => by
    rw [DataW.weightsAll]
    rcases List.mem_cons.1 h with e | e
    · subst e; exact List.mem_append_left _ hx
    · exact List.mem_append_right _ (weightsAll_mem e x hx)
theorem weightsEach_mem : ∀ {ts : List TypeId} {ds : List (DataW H)} {i : Nat} {t : TypeId} {d : DataW H}, ts[i]? = some t → ds[i]? = some d → ∀ x ∈ d.weights P t, x ∈ DataW.weightsEach P ts ds
  | [], _, _, _, _, h, _, _, _ => by simp at h
  | _ :: _, [], _, _, _, _, h, _, _ => by simp at h
  | t0 :: ts, d0 :: ds, 0, t, d, h1, h2, x, hx => by
    simp at h1 h2; subst h1 h2
    rw [DataW.weightsEach]; exact List.mem_append_left _ hx
  | t0 :: ts, d0 :: ds, i + 1, t, d, h1, h2, x, hx => by
    rw [DataW.weightsEach]; exact List.mem_append_right _ (weightsEach_mem (by simpa using h1) (by simpa using h2) x hx)
theorem tile_out {p : TypeId → List D → Prop} {F : Nat → Prop} : ∀ {fs : List Field} {o : Nat} {cs : List Value}, tileB P fs o cs.length = true →
    (∀ f ∈ fs, ∃ ds, RDs w F ds ((cs.drop f.offset).take (P.cellsOf f.type)) ∧ p f.type ds) → ∃ dss, RDs w F dss.flatten (cs.drop o) ∧ TyAll p (fs.map (·.type)) dss
  | [], o, cs, h, _ => by
    have := Nat.eq_of_beq_eq_true h
    subst this
    exact ⟨[], by simpa using RDs.nil, rfl⟩
  | f :: r, o, cs, h, hf => by
    simp only [tileB, Bool.and_eq_true] at h
    have := Nat.eq_of_beq_eq_true h.1
    subst this
    obtain ⟨ds, h1, h2⟩ := hf f (List.mem_cons_self ..)
    obtain ⟨dss, h3, h4⟩ := tile_out h.2 fun g hg => hf g (List.mem_cons_of_mem _ hg)
    refine ⟨ds :: dss, ?_, ds, dss, rfl, h2, h4⟩
    rw [List.flatten_cons]
    have := h1.app h3
    rw [← List.drop_drop, List.take_append_drop] at this
    exact this
theorem tile_arr {p : List D → Prop} {F : Nat → Prop} {s : Nat} : ∀ {n : Nat} {cs : List Value}, cs.length = n * s → (∀ i, i < n → ∃ ds, RDs w F ds ((cs.drop (i * s)).take s) ∧ p ds) → ∃ dss : List (List D), RDs w F dss.flatten cs ∧ dss.length = n ∧ ∀ d ∈ dss, p d
  | 0, cs, hl, _ => by
    have : cs = [] := List.eq_nil_of_length_eq_zero (by simpa using hl)
    subst this
    exact ⟨[], .nil, rfl, by simp⟩
  | n + 1, cs, hl, h => by
    obtain ⟨ds, h1, h2⟩ := h 0 (by omega)
    have hl' : (cs.drop s).length = n * s := by rw [List.length_drop, hl, Nat.add_mul]; omega
    obtain ⟨dss, h3, h4, h5⟩ := tile_arr hl' fun i hi => by
      obtain ⟨ds, h1, h2⟩ := h (i + 1) (by omega)
      exact ⟨ds, by rw [List.drop_drop, show s + i * s = (i + 1) * s by rw [Nat.add_mul]; omega]; exact h1, h2⟩
    refine ⟨ds :: dss, ?_, by simp [h4], fun d hd => (List.mem_cons.1 hd).elim (fun e => e ▸ h2) (h5 d)⟩
    rw [List.flatten_cons]
    have := h1.app h3
    simp only [Nat.zero_mul, List.drop_zero] at this
    rw [List.take_append_drop] at this
    exact this
theorem cells?_get {a : Addr} {n : Nat} {cs : List Value} (h : w.cells? 0 a n = some cs) : cs.length = n ∧ ∀ j (hj : j < cs.length), w.cell? (a.add j) = some cs[j] := by
  unfold World.cells? at h
  simp only [Nat.zero_le, if_true] at h
  obtain ⟨h1, h2⟩ := mapM_get h
  simp at h1
  refine ⟨h1, fun j hj => ?_⟩
  obtain ⟨y, h3, h4⟩ := h2 j j (by rw [List.getElem?_range (by omega)])
  rw [List.getElem?_eq_getElem hj] at h3
  injection h3 with h3
  rw [h3]; exact h4
/-- **Cells that read as plain data.** -/
theorem trod_ty : ∀ (m : Nat) (t : TypeId) (fuel : Nat) (cs : List Value) (d : DataW H) (ps : List MemPlace), supB P m t = true → DataW.trod enc P w 0 (fun _ => true) true fuel t cs = some (d, ps) → (∀ x ∈ d.weights P t, x ≤ reachBytes) →
    ∃ ds, RDs w (Fall w) ds cs ∧ Ty P m t ds
  | 0, t, _, _, _, _, hs, _, _ => by simp [supB] at hs
  | m + 1, t, 0, _, _, _, _, h, _ => by simp [DataW.trod] at h
  | m + 1, t, fuel + 1, cs, d, ps, hs, h, hw => by
    rw [supB] at hs
    cases hu : P.underlying t with
    | none => rw [hu] at hs; cases hs
    | some dsc =>
      rw [hu] at hs
      cases dsc <;> try (simp at hs; done)
      case bool =>
        unfold DataW.trod at h
        simp only [hu] at h
        split at h <;> try (simp at *; done)
        rename_i b _
        exact ⟨[.v (.bool b)], .cons (.v _) rfl .nil, by show TyB _ P t _; unfold TyB; rw [hu]; exact ⟨b, rfl⟩⟩
      case int k =>
        unfold DataW.trod at h
        simp only [hu] at h
        split at h <;> try (simp at *; done)
        rename_i k' k'' n e
        injection e with e; injection e with e; subst e
        split at h
        · rename_i hc
          obtain ⟨rfl, hwf⟩ := hc
          exact ⟨[.v (.int _ n)], .cons (.v _) rfl .nil, by show TyB _ P t _; unfold TyB; rw [hu]; exact ⟨n, rfl, hwf⟩⟩
        · cases h
      case string =>
        unfold DataW.trod at h
        simp only [hu] at h
        split at h <;> try (simp at *; done)
        rename_i s _
        split at h
        · injection h with h; injection h with h1 h2; subst h1
          refine ⟨[.v (.string s)], .cons (.v _) rfl .nil, by show TyB _ P t _; unfold TyB; rw [hu]; exact ⟨s, rfl, hw s.size (by simp [DataW.weights])⟩⟩
        · cases h
      case slice e =>
        simp only [Bool.and_eq_true, Nat.blt_eq] at hs
        unfold DataW.trod at h
        simp only [hu] at h
        split at h <;> try (simp at *; done)
        · exact ⟨[.sl (P.cellsOf e) []], .cons (.sl rfl (by simp) (Nat.le_refl _) (by simp [maxLen]) .nil (fun h => absurd h (by simp))) rfl .nil, by show TyB _ P t _; unfold TyB; rw [hu]; exact ⟨[], rfl, by simp, by simp⟩⟩
        · rename_i e' a len cap he
          injection he with he; injection he with he; subst he
          split at h
          · rename_i hc
            simp only [Option.bind_eq_some_iff, Option.map_eq_some_iff, if_true] at h
            obtain ⟨elems, h1, rest, h2, h3⟩ := h
            injection h3 with h3 h4
            subst h3
            obtain ⟨g1, g2⟩ := mapM_get h1
            simp at g1
            have hel : ∀ i, i < len → ∃ r, RDs w (Fall w) r (((List.range (P.cellsOf e)).map fun j => (w.cell? (a.add (i * P.cellsOf e + j))).getD undef)) ∧ Ty P m e r ∧ r.length = P.cellsOf e ∧ ∀ j, j < P.cellsOf e → (w.cell? (a.add (i * P.cellsOf e + j))).isSome = true := by
              intro i hi
              obtain ⟨y, q1, q2⟩ := g2 i i (by rw [List.getElem?_range hi])
              simp only [Option.bind_eq_some_iff] at q2
              obtain ⟨cs', q3, q4⟩ := q2
              obtain ⟨q5, q6⟩ := cells?_get q3
              have hcell : ∀ j (hj : j < cs'.length), w.cell? (a.add (i * P.cellsOf e + j)) = some cs'[j] := fun j hj => by
                rw [← q6 j hj]
                congr 1
                obtain ⟨b, off, sp⟩ := a
                unfold Addr.add
                split <;> split <;> split <;> simp_all <;> omega
              obtain ⟨r, q7, q8⟩ := trod_ty m e fuel cs' y.1 y.2 hs.1 q4 (fun x hx => hw x (by
                simp only [DataW.weights, hu]
                exact List.mem_cons_of_mem _ (List.mem_append_left _ (weightsAll_mem (List.mem_map.2 ⟨y, List.mem_of_getElem? q1, rfl⟩) x hx))))
              have hcs : ((List.range (P.cellsOf e)).map fun j => (w.cell? (a.add (i * P.cellsOf e + j))).getD undef) = cs' := by
                apply List.ext_getElem (by simp [q5])
                intro j h1 h2
                simp [hcell j h2]
              exact ⟨r, by rw [hcs]; exact q7, q8, by rw [← q5]; exact q7.length.symm, fun j hj => by rw [hcell j (by omega)]; rfl⟩
            have hcsl : ((List.range (len * P.cellsOf e)).map fun j => (w.cell? (a.add j)).getD undef).length = len * P.cellsOf e := by simp
            obtain ⟨dss, q1, q2, q3⟩ := tile_arr (w := w) (F := Fall w) (p := fun d => Ty P m e d ∧ d.length = P.cellsOf e) hcsl fun i hi => by
              obtain ⟨r, q1, q2, q3, q4⟩ := hel i hi
              refine ⟨r, ?_, q2, q3⟩
              have hmul : i * P.cellsOf e + P.cellsOf e ≤ len * P.cellsOf e := by rw [← Nat.succ_mul]; exact Nat.mul_le_mul_right _ hi
              have : (((List.range (len * P.cellsOf e)).map fun j => (w.cell? (a.add j)).getD undef).drop (i * P.cellsOf e)).take (P.cellsOf e) = ((List.range (P.cellsOf e)).map fun j => (w.cell? (a.add (i * P.cellsOf e + j))).getD undef) := by
                apply List.ext_getElem (by simp; omega)
                intro j h1 h2
                simp
              rw [this]; exact q1
            have hall : ∀ j, j < len * P.cellsOf e → (w.cell? (a.add j)).isSome = true := fun j hj => by
              have hd := Nat.div_add_mod j (P.cellsOf e)
              have hi : j / P.cellsOf e < len := (Nat.div_lt_iff_lt_mul hs.2).2 hj
              obtain ⟨_, _, _, _, q4⟩ := hel _ hi
              have := q4 (j % P.cellsOf e) (Nat.mod_lt _ hs.2)
              rwa [show j / P.cellsOf e * P.cellsOf e + j % P.cellsOf e = j by rw [Nat.mul_comm]; omega] at this
            have hbound : dss.length * P.bytesOf e ≤ reachBytes := by
              rw [q2]
              have := hw ((elems.map (·.1)).length * P.bytesOf e + (rest.map (·.1)).length * P.bytesOf e) (by simp [DataW.weights, hu, Nat.add_mul])
              simp only [List.length_map, g1] at this
              omega
            refine ⟨[.sl (P.cellsOf e) dss], .cons (.sl q2 (fun r hr => (q3 r hr).2) hc.2.1 hc.2.2 q1 fun hp => ?_) rfl .nil, by show TyB _ P t _; unfold TyB; rw [hu]; refine ⟨dss, rfl, fun r hr => (q3 r hr).1, ?_⟩; exact hbound⟩
            · obtain ⟨b, off, sp⟩ := a
              have h0 := hall 0 (Nat.mul_pos hp hs.2)
              obtain ⟨u, hu0⟩ := Option.isSome_iff_exists.1 h0
              have hsp : sp = none := by simpa [Addr.add] using World.cell?_spot hu0
              subst hsp
              refine ⟨b, off, rfl, ?_, fun j hj => ?_⟩
              · rw [Addr.add_lit] at hu0
                exact World.block_lt_of_cell? w _ hu0
              · rw [hcsl] at hj
                have := hall j hj
                rw [Addr.add_lit] at this
                obtain ⟨u, hu⟩ := Option.isSome_iff_exists.1 this
                simp [Addr.add_lit, hu]
          · cases h
      case struct fs =>
        simp only [Bool.and_eq_true, List.all_eq_true] at hs
        unfold DataW.trod at h
        simp only [hu] at h
        split at h
        · rename_i hlen
          simp only [Option.map_eq_some_iff] at h
          obtain ⟨xs, h1, h2⟩ := h
          injection h2 with h2 h3
          subst h2
          obtain ⟨g1, g2⟩ := mapM_get h1
          obtain ⟨dss, q1, q2⟩ := tile_out (w := w) (F := Fall w) (P := P) (p := Ty P m) (cs := cs) (by rw [hlen]; exact hs.1) fun f hf => by
            obtain ⟨i, hi, rfl⟩ := List.getElem_of_mem hf
            obtain ⟨y, q1, q2⟩ := g2 i _ (List.getElem?_eq_getElem hi)
            exact trod_ty m _ fuel _ y.1 y.2 (hs.2 _ hf) q2 fun x hx => hw x (by
              simp only [DataW.weights, hu]
              exact weightsEach_mem (i := i) (t := fs.toList[i].type) (by rw [List.getElem?_map, List.getElem?_eq_getElem hi]; rfl) (by rw [List.getElem?_map, q1]; rfl) x hx)
          exact ⟨dss.flatten, by simpa using q1, by show TyB _ P t _; unfold TyB; rw [hu]; exact ⟨dss, rfl, q2⟩⟩
        · cases h
      case array n e =>
        simp only [Bool.and_eq_true] at hs
        unfold DataW.trod at h
        simp only [hu] at h
        split at h
        · rename_i hlen
          simp only [Option.map_eq_some_iff] at h
          obtain ⟨xs, h1, h2⟩ := h
          injection h2 with h2 h3
          subst h2
          obtain ⟨g1, g2⟩ := mapM_get h1
          obtain ⟨dss, q1, q2, q3⟩ := tile_arr (w := w) (F := Fall w) (p := Ty P m e) (n := n) (s := P.cellsOf e) (cs := cs) (by rw [hlen]; exact (Nat.eq_of_beq_eq_true hs.2).symm) fun i hi => by
            obtain ⟨y, q1, q2⟩ := g2 i i (by rw [List.getElem?_range hi])
            exact trod_ty m _ fuel _ y.1 y.2 hs.1 q2 fun x hx => hw x (by
              simp only [DataW.weights, hu]
              exact weightsAll_mem (List.mem_map.2 ⟨y, List.mem_of_getElem? q1, rfl⟩) x hx)
          exact ⟨dss.flatten, q1, by show TyB _ P t _; unfold TyB; rw [hu]; exact ⟨dss, rfl, q2, q3⟩⟩
        · cases h
/-- What an argument of a type looks like. -/
def TyV (P : Program) (t : TypeId) (x : D) : Prop :=
  match P.underlying t with
  | some (.struct _) => ∃ ds, x = .agg ds ∧ Ty P 9 t ds
  | some (.array _ _) => ∃ ds, x = .agg ds ∧ Ty P 9 t ds
  | _ => Ty P 9 t [x]
def ArgsTy (P : Program) : List TypeId → List AV → Prop
  | [], aas => aas = []
  | t :: ts, aas => ∃ x r, aas = .d x :: r ∧ TyV P t x ∧ ArgsTy P ts r
theorem arg_tyV {t : TypeId} {v : Value} {d : DataW H} {ps : List MemPlace} (hs : supB P 9 t = true) (hok : Value.okWide P w .any base t v) (h : DataW.Trod enc P w 0 (fun _ => true) true t v d ps) (hw : ∀ x ∈ d.weights P t, x ≤ reachBytes) :
    ∃ x, TyV P t x ∧ RD w (Fall w) x v := by
  obtain ⟨fuel, hf⟩ := h
  obtain ⟨ds, h1, h2⟩ := trod_ty 9 t fuel _ d ps hs hf hw
  have hs0 := hs
  rw [supB] at hs
  have one : v.cells.toList = [v] → ∃ x, ds = [x] ∧ RD w (Fall w) x v := fun e => by
    rw [e] at h1
    cases h1 with | cons h1 _ hr => cases hr; exact ⟨_, rfl, h1⟩
  cases hu : P.underlying t with
  | none => rw [hu] at hs; cases hs
  | some dsc =>
    rw [hu] at hs
    have fin : v.cells.toList = [v] → (∀ x, Ty P 9 t [x] → TyV P t x) → ∃ x, TyV P t x ∧ RD w (Fall w) x v := fun e hx => by
      obtain ⟨x, rfl, hr⟩ := one e
      exact ⟨x, hx x h2, hr⟩
    have agg : (∃ cs, v = .agg cs) → (∀ ds, Ty P 9 t ds → TyV P t (.agg ds)) → ∃ x, TyV P t x ∧ RD w (Fall w) x v := fun ⟨cs, e⟩ hx => by
      subst e
      exact ⟨.agg ds, hx ds h2, by simpa [Value.cells] using RD.agg h1⟩
    cases dsc <;> try (simp at hs; done)
    · obtain ⟨b, rfl⟩ := okWide_bool hu hok; exact fin rfl fun x hx => by unfold TyV; rw [hu]; exact hx
    · obtain ⟨b, rfl⟩ := okWide_int hu hok; exact fin rfl fun x hx => by unfold TyV; rw [hu]; exact hx
    · obtain ⟨b, rfl⟩ := okWide_string hu hok; exact fin rfl fun x hx => by unfold TyV; rw [hu]; exact hx
    · obtain ⟨a, l, c, rfl⟩ := okWide_slice hu hok; exact fin rfl fun x hx => by unfold TyV; rw [hu]; exact hx
    · unfold Value.okWide at hok
      rw [hu] at hok
      obtain ⟨cs, e, _⟩ := hok
      exact agg ⟨cs, e⟩ fun ds hd => by unfold TyV; rw [hu]; exact ⟨ds, rfl, hd⟩
    · unfold Value.okWide at hok
      rw [hu] at hok
      obtain ⟨cs, e, _⟩ := hok
      exact agg ⟨cs, e⟩ fun ds hd => by unfold TyV; rw [hu]; exact ⟨ds, rfl, hd⟩
theorem args_ty : ∀ {ts : List TypeId} {vs : List Value} {ds : List (DataW H)} {ps : List MemPlace}, (ts.all fun t => supB P 9 t) = true → (∀ (j : Nat) (t : TypeId) (v : Value), ts[j]? = some t → vs[j]? = some v → Value.okWide P w .any base t v) → DataW.TrodAll enc P w 0 (fun _ => true) true ts vs ds ps → (∀ x ∈ DataW.weightsEach P ts ds, x ≤ reachBytes) →
    ∃ aas, ArgsTy P ts aas ∧ RAs w (Fall w) (fun _ => none) aas vs
  | [], vs, ds, ps, _, _, h, _ => by
    obtain ⟨rfl, rfl, rfl⟩ := trodAll_nil h
    exact ⟨[], rfl, .nil⟩
  | t :: ts, vs, ds, ps, hs, hok, h, hw => by
    obtain ⟨v, vs', d, ds', p, q, rfl, rfl, rfl, h0, r0⟩ := trodAll_cons h
    simp only [List.all_cons, Bool.and_eq_true] at hs
    obtain ⟨x, h1, h2⟩ := arg_tyV hs.1 (hok 0 t v rfl rfl) h0 fun y hy => hw y (by rw [DataW.weightsEach]; exact List.mem_append_left _ hy)
    obtain ⟨aas, h3, h4⟩ := args_ty hs.2 (fun j t v h1 h2 => hok (j + 1) t v (by simpa using h1) (by simpa using h2)) r0 fun y hy => hw y (by rw [DataW.weightsEach]; exact List.mem_append_right _ hy)
    exact ⟨.d x :: aas, ⟨x, aas, rfl, h1, h3⟩, .cons (.d h2) h4⟩
/-- **From a law's contract to what its statement asks of the walk.** -/
theorem lawWalk_of_sat {F : FuncId} {fn : Func} (hs : (fn.params.toList.all fun t => supB P 9 t) = true) (h : ∀ aas, ArgsTy P fn.params.toList aas → Sat P F aas [] (.d (.v (.bool true))) []) : LawWalk H enc P F fn := by
  intro W base args ds p hok hT hw
  obtain ⟨aas, h1, h2⟩ := args_ty hs (fun j t v h1 h2 => hok j t v (by simpa using h1) (by simpa using h2)) hT fun x hx => by
    have := List.all_eq_true.1 hw x hx
    simpa using this
  have En : Env (Fall W) (fun _ => none) (hp []) W := ⟨fun b h => h, fun i _ => rfl, fun i o h => by simp [hp] at h, fun i j o o' _ _ _ h => by simp [hp] at h⟩
  have := h aas h1 (Fall W) (fun _ => none) W args.toList En h2
  have e : args.toList.toArray = args := by simp
  rw [e] at this
  refine this.mono ?_
  rintro en W' ⟨v, rfl, F', ρ', S, _, _, R⟩
  have := R.v_out
  subst this
  exact ⟨rfl, S.os, S.tape, S.output, S.size, fun b hb => S.unch b hb fun ⟨i, o, hh, h, _⟩ => by simp [hp] at h⟩
end
end Go.Proofs.Ytamomaihmfdebaa
/- What arguments of a law are, by their types: numbers, structs of numbers, slices of such. No program is named here. -/
namespace Go.Proofs.Ytamomaihmfdebaa
set_option linter.unusedSimpArgs false
set_option linter.unusedVariables false
open Go.RowKit
section
variable {P : Program} {t : TypeId} {x : D} {m : Nat} {ds : List D}
def in64 (z : Int) : Prop := -9223372036854775808 ≤ z ∧ z ≤ 9223372036854775807
theorem wf_i64 {z : Int} (h : (Lit.int .i64 z).wf = true) : in64 z := by
  simp only [Lit.wf, Bool.and_eq_true, decide_eq_true_eq] at h
  exact h
theorem tyv_one (h : TyV P t x) {d : TypeDesc} (hu : P.underlying t = some d) (h1 : (match d with | .struct _ => false | .array _ _ => false | _ => true) = true) : Ty P 9 t [x] := by
  unfold TyV at h
  rw [hu] at h
  cases d <;> first | exact h | cases h1
theorem ty_int {k : IntKind} (h : TyV P t x) (hu : P.underlying t = some (.int k)) : ∃ z, x = .v (.int k z) ∧ (Lit.int k z).wf = true := by
  have h := tyv_one h hu rfl
  have h : TyB (Ty P 8) P t [x] := h
  unfold TyB at h
  rw [hu] at h
  obtain ⟨z, h1, h2⟩ := h
  injection h1 with h1
  exact ⟨z, h1, h2⟩
theorem ty_i64 (h : TyV P t x) (hu : P.underlying t = some (.int .i64)) : ∃ z, x = .v (.int .i64 z) ∧ in64 z := by
  obtain ⟨z, h1, h2⟩ := ty_int h hu
  exact ⟨z, h1, wf_i64 h2⟩
theorem ty_slice {e : TypeId} (h : TyV P t x) (hu : P.underlying t = some (.slice e)) : ∃ rows, x = .sl (P.cellsOf e) rows ∧ (∀ r ∈ rows, Ty P 8 e r) ∧ rows.length * P.bytesOf e ≤ reachBytes := by
  have h := tyv_one h hu rfl
  have h : TyB (Ty P 8) P t [x] := h
  unfold TyB at h
  rw [hu] at h
  obtain ⟨rows, h1, h2⟩ := h
  injection h1 with h1
  exact ⟨rows, h1, h2⟩
theorem rows_map {α : Type} {f : α → List D} {p : α → Prop} : ∀ {rows : List (List D)}, (∀ r ∈ rows, ∃ a, r = f a ∧ p a) → ∃ l : List α, rows = l.map f ∧ ∀ a ∈ l, p a
  | [], _ => ⟨[], rfl, fun a h => by simp at h⟩
  | r :: rest, h => by
    obtain ⟨a, rfl, ha⟩ := h r (List.mem_cons_self ..)
    obtain ⟨l, rfl, hl⟩ := rows_map (rows := rest) fun r hr => h r (List.mem_cons_of_mem _ hr)
    exact ⟨a :: l, rfl, fun b hb => (List.mem_cons.1 hb).elim (fun e => e ▸ ha) fun q => hl b q⟩
end
end Go.Proofs.Ytamomaihmfdebaa
/- Short words for abstract values; small laws of lists. -/
namespace Go.Proofs.Ytamomaihmfdebaa
set_option linter.unusedSimpArgs false
set_option linter.unusedVariables false
open Go.RowKit
set_option maxRecDepth 100000
abbrev iD (z : Int) : D := .v (.int .i64 z)
abbrev iA (z : Int) : AV := .d (.v (.int .i64 z))
abbrev bA (b : Bool) : AV := .d (.v (.bool b))
abbrev gR (g : Int × Int) : List D := [iD g.1, iD g.2]
abbrev gA (g : Int × Int) : AV := .d (.agg (gR g))
theorem map_get {α β : Type} {f : α → β} {l : List α} {k : Nat} {x : α} (h : l[k]? = some x) : (l.map f)[k]? = some (f x) := by rw [List.getElem?_map, h]; rfl
end Go.Proofs.Ytamomaihmfdebaa
