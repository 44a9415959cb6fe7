/- Comparisons of pointers, truth values and structs. No program is named here. -/
import Derived.Test.YtgidaifoiljgoaaVcV
import Derived.ChangeKeysEq
namespace Go.Proofs.Ytgidaifoiljgoaa
set_option linter.unusedSimpArgs false
set_option linter.unusedVariables false
open Go.RowKit
section
variable {P : Program} {w w' : World} {F F' : Nat → Prop} {ρ ρ' : Nat → Option Value} {H : Hp} {L : List AObj} {ty n : Nat} {x y : Operand} {t t' : TypeId}
def isBoolT (P : Program) (t : TypeId) : Bool := match P.underlying t with | some .bool => true | _ => false
def isPtrT (P : Program) (t : TypeId) : Bool := match P.underlying t with | some (.pointer _) => true | _ => false
def isSliT (P : Program) (t : TypeId) : Bool := match P.underlying t with | some (.slice _) => true | _ => false
theorem isPtrT_out (h : isPtrT P t = true) : ∃ e, P.underlying t = some (.pointer e) := by
  unfold isPtrT at h
  split at h
  · exact ⟨_, by assumption⟩
  · cases h
theorem isBoolT_out (h : isBoolT P t = true) : P.underlying t = some .bool := by
  unfold isBoolT at h
  split at h
  · assumption
  · cases h
theorem isSliT_out (h : isSliT P t = true) : ∃ e, P.underlying t = some (.slice e) := by
  unfold isSliT at h
  split at h
  · exact ⟨_, by assumption⟩
  · cases h
theorem does_ra2 {op : Op} {x y : Operand} {a b : AV} {r : Value} (hop : op.operands = #[x, y]) (h : ∀ (o : Oper) (w : World) (F : Nat → Prop) (ρ : Nat → Option Value) (ev : Operand → Value) (u v : Value), o.op = op → ev x = u → ev y = v → RA w F ρ a u → RA w F ρ b v → (execOp ev o).run P w = .ok (.value r) w) : Does P op ty L n [a, b] e0 (.d (.v r)) :=
  does_val fun o w F ρ ev ho _ hx => by
    rw [hop] at hx
    obtain ⟨v1, v2, e, h1, h2⟩ := hx.two_out
    simp at e
    exact ⟨r, h o w F ρ ev v1 v2 ho e.1 e.2 h1 h2, .d (.v r)⟩
theorem run_eq {op : BinOp} {u v : Value} {b c : Bool} {g : Bool → Bool} (hb : ∀ d : Nat, (Op.equalIn (d + 1) t u v).run P w = .ok b w) (hf : binOp op t u v = (do let r ← Op.equal t u v; pure (.bool (g r))))
    (hc : c = g b) : (binOp op t u v).run P w = .ok (.bool c) w := by
  rw [hf, hc]
  have h := hb 9999
  simp [Op.equal, Op.maxDepth, h]
theorem eq_form (u v : Value) (h : (match u, v with | .int .., .int .. => false | .float .., .float .. => false | .complex .., .complex .. => false | .string _, .string _ => false | _, _ => true) = true) : binOp .eql t u v = (do let r ← Op.equal t u v; pure (.bool (id r))) := by
  cases u <;> cases v <;> first | rfl | (simp at h; done)
theorem ne_form (u v : Value) (h : (match u, v with | .int .., .int .. => false | .float .., .float .. => false | .complex .., .complex .. => false | .string _, .string _ => false | _, _ => true) = true) : binOp .neq t u v = (do let r ← Op.equal t u v; pure (.bool (!r))) := by
  cases u <;> cases v <;> first | rfl | (simp at h; done)
theorem guard_form {op : BinOp} (u v : Value) (h : (match u, v with | .nilIface, .nilIface => false | .agg _, .agg _ => false | _, _ => true) = true) : (eqGuard op t x y u v).run P w = .ok () w := by
  cases u <;> cases v <;> first | (cases op <;> rfl) | (simp at h)
theorem exec_eq {op : BinOp} {o : Oper} {ev : Operand → Value} {u v : Value} {c : Bool} (ho : o.op = .binOp op t x y t') (h1 : ev x = u) (h2 : ev y = v) (hg : (eqGuard op t x y u v).run P w = .ok () w) (hb : (binOp op t u v).run P w = .ok (.bool c) w) :
    (execOp ev o).run P w = .ok (.value (.bool c)) w := by
  simp only [execOp, ho, h1, h2]
  simp [hg, hb]
theorem eqB {a b : Bool} (h : isBoolT P t = true) : Does P (.binOp .eql t x y t') ty L n [.d (.v (.bool a)), .d (.v (.bool b))] e0 (.d (.v (.bool (a == b)))) :=
  does_lit2 rfl fun o w ev ho h1 h2 => exec_eq ho h1 h2 (guard_form _ _ rfl) (run_eq (b := a == b) (fun d => by simp [Op.equalIn, run_underlying (isBoolT_out h)]) (eq_form _ _ rfl) rfl)
theorem neB {a b : Bool} (h : isBoolT P t = true) : Does P (.binOp .neq t x y t') ty L n [.d (.v (.bool a)), .d (.v (.bool b))] e0 (.d (.v (.bool (a != b)))) :=
  does_lit2 rfl fun o w ev ho h1 h2 => exec_eq ho h1 h2 (guard_form _ _ rfl) (run_eq (b := a == b) (fun d => by simp [Op.equalIn, run_underlying (isBoolT_out h)]) (ne_form _ _ rfl) rfl)
theorem eqP {i k : Nat} (h : isPtrT P t = true) : Does P (.binOp .eql t x y t') ty L n [.ptr i k, .d (.v (.pointer none))] e0 (.d (.v (.bool false))) :=
  does_ra2 rfl fun o w F ρ ev u v ho h1 h2 hu hv => by
    obtain ⟨e, he⟩ := isPtrT_out h
    have := hv.v_out
    subst this
    cases hu
    exact exec_eq ho h1 h2 (guard_form _ _ rfl) (run_eq (b := false) (fun d => by simp [Op.equalIn, run_underlying he]) (eq_form _ _ rfl) rfl)
theorem neP {i k : Nat} (h : isPtrT P t = true) : Does P (.binOp .neq t x y t') ty L n [.ptr i k, .d (.v (.pointer none))] e0 (.d (.v (.bool true))) :=
  does_ra2 rfl fun o w F ρ ev u v ho h1 h2 hu hv => by
    obtain ⟨e, he⟩ := isPtrT_out h
    have := hv.v_out
    subst this
    cases hu
    exact exec_eq ho h1 h2 (guard_form _ _ rfl) (run_eq (b := false) (fun d => by simp [Op.equalIn, run_underlying he]) (ne_form _ _ rfl) rfl)
theorem eqN (h : isPtrT P t = true) : Does P (.binOp .eql t x y t') ty L n [.d (.v (.pointer none)), .d (.v (.pointer none))] e0 (.d (.v (.bool true))) :=
  does_lit2 rfl fun o w ev ho h1 h2 => by
    obtain ⟨e, he⟩ := isPtrT_out h
    exact exec_eq ho h1 h2 (guard_form _ _ rfl) (run_eq (b := true) (fun d => by simp [Op.equalIn, run_underlying he]) (eq_form _ _ rfl) rfl)
theorem neN (h : isPtrT P t = true) : Does P (.binOp .neq t x y t') ty L n [.d (.v (.pointer none)), .d (.v (.pointer none))] e0 (.d (.v (.bool false))) :=
  does_lit2 rfl fun o w ev ho h1 h2 => by
    obtain ⟨e, he⟩ := isPtrT_out h
    exact exec_eq ho h1 h2 (guard_form _ _ rfl) (run_eq (b := true) (fun d => by simp [Op.equalIn, run_underlying he]) (ne_form _ _ rfl) rfl)
/-! ### structs of numbers -/
def intT (P : Program) (t : TypeId) : Bool := match P.underlying t with | some (.int _) => true | _ => false
theorem intT_out (h : intT P t = true) : ∃ k, P.underlying t = some (.int k) := by
  unfold intT at h
  split at h
  · exact ⟨_, by assumption⟩
  · cases h
def eq2T (P : Program) (t : TypeId) : Bool := match P.underlying t with
  | some (.struct fs) => (match fs.toList with
    | [f, g] => !P.stoodInHeld t && !P.eqGuardType P.depth t && f.name != "_" && Nat.beq f.offset 0 && intT P f.type && g.name != "_" && Nat.beq g.offset 1 && intT P g.type
    | _ => false)
  | _ => false
theorem run_eq2 {k k' : IntKind} {a b c d : Int} (h : eq2T P t = true) (m : Nat) : (Op.equalIn (m + 2) t (.agg #[.int k a, .int k' b]) (.agg #[.int k c, .int k' d])).run P w = .ok (a == c && b == d) w := by
  unfold eq2T at h
  split at h
  · rename_i fs hu
    split at h
    · rename_i f g hfs
      obtain rfl : fs = #[f, g] := by cases fs; simp at hfs; rw [hfs]
      simp only [Bool.and_eq_true, Bool.not_eq_true', bne_iff_ne] at h
      obtain ⟨⟨⟨⟨⟨⟨⟨h1, _⟩, h3⟩, h4⟩, h5⟩, h6⟩, h7⟩, h8⟩ := h
      obtain ⟨q1, e1⟩ := intT_out h5
      obtain ⟨q2, e2⟩ := intT_out h8
      have h4 := Nat.eq_of_beq_eq_true h4
      have h7 := Nat.eq_of_beq_eq_true h7
      have p1 : ∀ u v : Value, (part f.type #[u, v] 0).run P w = .ok u w := fun u v => by simp [part, isAgg, run_underlying e1]
      have p2 : ∀ u v : Value, (part g.type #[u, v] 1).run P w = .ok v w := fun u v => by simp [part, isAgg, run_underlying e2]
      have q1 : ∀ m a c, (Op.equalIn (m + 1) f.type (.int k a) (.int k c)).run P w = .ok (a == c) w := fun m a c => by simp [Op.equalIn, run_underlying e1]
      have q2 : ∀ m a c, (Op.equalIn (m + 1) g.type (.int k' a) (.int k' c)).run P w = .ok (a == c) w := fun m a c => by simp [Op.equalIn, run_underlying e2]
      rw [Op.equalIn]
      simp [run_underlying hu, h1, h3, h6, h4, h7, p1, p2, q1, q2]
      cases hac : a == c <;> cases hbd : b == d <;> simp_all
    · cases h
  · cases h
theorem eq2_guard {op : BinOp} {us vs : Array Value} (h : eq2T P t = true) : (eqGuard op t x y (.agg us) (.agg vs)).run P w = .ok () w := by
  have hg : P.eqGuardType P.depth t = false := by
    unfold eq2T at h
    split at h
    · split at h
      · simp only [Bool.and_eq_true, Bool.not_eq_true', bne_iff_ne] at h
        exact h.1.1.1.1.1.1.2
      · cases h
    · cases h
  cases op <;> simp [eqGuard, hg]
theorem run_equal2 {k k' : IntKind} {a b c d : Int} (h : eq2T P t = true) : (Op.equal t (.agg #[.int k a, .int k' b]) (.agg #[.int k c, .int k' d])).run P w = .ok (a == c && b == d) w := run_eq2 h 9998
theorem agg2 {k k' : IntKind} {a b : Int} {v : Value} (h : RA w F ρ (.d (.agg [.v (.int k a), .v (.int k' b)])) v) : v = .agg #[.int k a, .int k' b] :=
  FlatW.eq (by repeat constructor) h
/-- Two structs of two numbers. -/
theorem eqS {k k' : IntKind} {a b c d : Int} (h : eq2T P t = true) : Does P (.binOp .eql t x y t') ty L n [.d (.agg [.v (.int k a), .v (.int k' b)]), .d (.agg [.v (.int k c), .v (.int k' d)])] e0 (.d (.v (.bool (a == c && b == d)))) :=
  does_ra2 rfl fun o w F ρ ev u v ho h1 h2 hu hv => by
    have := agg2 hu
    subst this
    have := agg2 hv
    subst this
    exact exec_eq ho h1 h2 (eq2_guard h) (by rw [eq_form _ _ rfl]; simp [run_equal2 h])
theorem neS {k k' : IntKind} {a b c d : Int} (h : eq2T P t = true) : Does P (.binOp .neq t x y t') ty L n [.d (.agg [.v (.int k a), .v (.int k' b)]), .d (.agg [.v (.int k c), .v (.int k' d)])] e0 (.d (.v (.bool (!(a == c && b == d))))) :=
  does_ra2 rfl fun o w F ρ ev u v ho h1 h2 hu hv => by
    have := agg2 hu
    subst this
    have := agg2 hv
    subst this
    exact exec_eq ho h1 h2 (eq2_guard h) (by rw [ne_form _ _ rfl]; simp [run_equal2 h])
end
end Go.Proofs.Ytgidaifoiljgoaa
