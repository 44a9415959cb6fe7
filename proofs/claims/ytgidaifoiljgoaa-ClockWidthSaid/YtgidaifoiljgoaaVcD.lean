/- Single operations. No program is named here. -/
import Derived.Test.YtgidaifoiljgoaaVcC
namespace Go.Proofs.Ytgidaifoiljgoaa
set_option linter.unusedSimpArgs false
set_option linter.unusedVariables false
open Go.RowKit
section
variable {P : Program} {w w' : World} {F F' : Nat → Prop} {ρ ρ' : Nat → Option Value} {H : Hp} {L : List AObj} {ty : TypeId} {n : Nat}
abbrev e0 : Eff := ⟨[], [], []⟩
theorem RA.v_out {u v : Value} (h : RA w F ρ (.d (.v u)) v) : v = u := by cases h with | d h => cases h; rfl
theorem RAs.one_out {x : AV} {vs : List Value} (h : RAs w F ρ [x] vs) : ∃ v, vs = [v] ∧ RA w F ρ x v := by
  cases h with | cons h hr => cases hr; exact ⟨_, rfl, h⟩
theorem RAs.two_out {x y : AV} {vs : List Value} (h : RAs w F ρ [x, y] vs) : ∃ v u, vs = [v, u] ∧ RA w F ρ x v ∧ RA w F ρ y u := by
  cases h with | cons h hr => cases hr with | cons h' hr => cases hr; exact ⟨_, _, rfl, h, h'⟩
theorem RAs.three_out {x y z : AV} {vs : List Value} (h : RAs w F ρ [x, y, z] vs) : ∃ v u t, vs = [v, u, t] ∧ RA w F ρ x v ∧ RA w F ρ y u ∧ RA w F ρ z t := by
  cases h with | cons h hr => cases hr with | cons h' hr => cases hr with | cons h'' hr => cases hr; exact ⟨_, _, _, rfl, h, h', h''⟩
/-- An operation that only computes. -/
theorem does_val {op : Op} {xs : List AV} {r : AV} (h : ∀ (o : Oper) (w : World) (F : Nat → Prop) (ρ : Nat → Option Value) (ev : Operand → Value), o.op = op → o.type = ty → RAs w F ρ xs (op.operands.toList.map ev) → ∃ v, (execOp ev o).run P w = .ok (.value v) w ∧ RA w F ρ r v) :
    Does P op ty L n xs e0 r := by
  intro o H F ρ w ev ho ht E _ _ hx
  obtain ⟨v, hr, hv⟩ := h o w F ρ ev ho ht hx
  rw [hr]
  exact Post.same E hv
/-- .. on known values. -/
theorem does_lit1 {op : Op} {x : Operand} {u r : Value} (hop : op.operands = #[x]) (h : ∀ (o : Oper) (w : World) (ev : Operand → Value), o.op = op → ev x = u → (execOp ev o).run P w = .ok (.value r) w) : Does P op ty L n [.d (.v u)] e0 (.d (.v r)) :=
  does_val fun o w F ρ ev ho _ hx => by
    rw [hop] at hx
    obtain ⟨v, e, hv⟩ := hx.one_out
    have := hv.v_out
    subst this
    simp at e
    exact ⟨r, h o w ev ho e, .d (.v r)⟩
theorem does_lit2 {op : Op} {x y : Operand} {u v r : Value} (hop : op.operands = #[x, y]) (h : ∀ (o : Oper) (w : World) (ev : Operand → Value), o.op = op → ev x = u → ev y = v → (execOp ev o).run P w = .ok (.value r) w) : Does P op ty L n [.d (.v u), .d (.v v)] e0 (.d (.v r)) :=
  does_val fun o w F ρ ev ho _ hx => by
    rw [hop] at hx
    obtain ⟨v1, v2, e, h1, h2⟩ := hx.two_out
    have := h1.v_out
    have := h2.v_out
    subst v1 v2
    simp at e
    exact ⟨r, h o w ev ho e.1 e.2, .d (.v r)⟩
theorem does_move (x : Operand) (r : AV) : Does P (.move x) ty L n [r] e0 r := does_val fun o w F ρ ev ho _ hx => by
  obtain ⟨v, e, hv⟩ := hx.one_out
  simp [Op.operands] at e
  exact ⟨v, by simp [execOp, ho, e], hv⟩
theorem does_assign (x : Operand) (r : AV) : Does P (.assign x) ty L n [r] e0 r := does_val fun o w F ρ ev ho _ hx => by
  obtain ⟨v, e, hv⟩ := hx.one_out
  simp [Op.operands] at e
  exact ⟨v, by simp [execOp, ho, e], hv⟩
/-! ### numbers and truth values -/
def kEq : IntKind → IntKind → Bool
  | .i8, .i8 | .i16, .i16 | .i32, .i32 | .i64, .i64 | .u8, .u8 | .u16, .u16 | .u32, .u32 | .u64, .u64 => true
  | _, _ => false
theorem kEq_out {a b : IntKind} (h : kEq a b = true) : a = b := by cases a <;> cases b <;> first | rfl | cases h
def dI (k : IntKind) (n : Int) : AV := .d (.v (.int k n))
def dB (b : Bool) : AV := .d (.v (.bool b))
def binI (b : BinOp) (k : IntKind) (x y : Int) (K : AV → Prop) (Q : Prop) : Prop :=
  match b with
  | .add => K (.d (.v (.int k (k.wrap (x + y)))))
  | .sub => K (.d (.v (.int k (k.wrap (x - y)))))
  | .mul => K (.d (.v (.int k (k.wrap (x * y)))))
  | .quo => y ≠ 0 ∧ K (.d (.v (.int k (k.wrap (x.tdiv y)))))
  | .rem => y ≠ 0 ∧ K (.d (.v (.int k (x.tmod y))))
  | .and => K (.d (.v (.int k (k.wrap (BitVec.ofInt k.bits x &&& BitVec.ofInt k.bits y).toNat))))
  | .or => K (.d (.v (.int k (k.wrap (BitVec.ofInt k.bits x ||| BitVec.ofInt k.bits y).toNat))))
  | .xor => K (.d (.v (.int k (k.wrap (BitVec.ofInt k.bits x ^^^ BitVec.ofInt k.bits y).toNat))))
  | .eql => K (.d (.v (.bool (x == y))))
  | .neq => K (.d (.v (.bool (x != y))))
  | .lss => K (.d (.v (.bool (decide (x < y)))))
  | .leq => K (.d (.v (.bool (decide (x ≤ y)))))
  | .gtr => K (.d (.v (.bool (decide (x > y)))))
  | .geq => K (.d (.v (.bool (decide (x ≥ y)))))
  | _ => Q
def binK (b : BinOp) (x y : AV) (K : AV → Prop) (Q : Prop) : Prop :=
  match x, y with
  | .d (.v (.int k a)), .d (.v (.int k' c)) =>
    match b with
    | .shl => 0 ≤ c ∧ K (.d (.v (.int k (k.wrap (a * 2 ^ (min c.toNat k.bits))))))
    | .shr => 0 ≤ c ∧ K (.d (.v (.int k (a.fdiv (2 ^ (min c.toNat k.bits))))))
    | b => match kEq k k' with
      | true => binI b k a c K Q
      | false => Q
  | .d (.v (.bool a)), .d (.v (.bool c)) => Q
  | _, _ => Q
theorem binI_out {b : BinOp} {k : IntKind} {a c : Int} {x y : Operand} {t t' : TypeId} {K : AV → Prop} {Q : Prop} (h : binI b k a c K Q) : (∃ r, K r ∧ Does P (.binOp b t x y t') ty L n [.d (.v (.int k a)), .d (.v (.int k c))] e0 r) ∨ Q := by
  unfold binI at h
  split at h
  case h_15 => exact .inr h
  all_goals
    left
    first
    | exact ⟨_, h, does_lit2 rfl fun o w ev ho h1 h2 => by simp [execOp, ho, h1, h2, eqGuard, binOp, Op.intArith, Op.intCmp, Op.intBits, Op.intDiv]⟩
    | exact ⟨_, h.2, does_lit2 rfl fun o w ev ho h1 h2 => by simp [execOp, ho, h1, h2, eqGuard, binOp, Op.intArith, Op.intCmp, Op.intBits, Op.intDiv, h.1]⟩
theorem binK_out {b : BinOp} {u v : AV} {x y : Operand} {t t' : TypeId} {K : AV → Prop} {Q : Prop} (h : binK b u v K Q) : (∃ r, K r ∧ Does P (.binOp b t x y t') ty L n [u, v] e0 r) ∨ Q := by
  unfold binK at h
  split at h
  · rename_i k a k' c
    split at h
    · exact .inl ⟨_, h.2, does_lit2 rfl fun o w ev ho h1 h2 => by simp [execOp, ho, h1, h2, eqGuard, binOp, Op.shift, show ¬ c < 0 from by have := h.1; omega]⟩
    · exact .inl ⟨_, h.2, does_lit2 rfl fun o w ev ho h1 h2 => by simp [execOp, ho, h1, h2, eqGuard, binOp, Op.shift, show ¬ c < 0 from by have := h.1; omega]⟩
    · split at h
      · rename_i hk
        have := kEq_out hk
        subst this
        exact binI_out h
      · exact .inr h
  · exact .inr h
  · exact .inr h
def unK (u : UnOp) (x : AV) (K : AV → Prop) (Q : Prop) : Prop :=
  match u, x with
  | .not, .d (.v (.bool b)) => K (.d (.v (.bool !b)))
  | .neg, .d (.v (.int k a)) => K (.d (.v (.int k (k.wrap (0 - a)))))
  | .xor, .d (.v (.int k a)) => K (.d (.v (.int k (k.wrap (BitVec.ofInt k.bits (if k.signed then -1 else k.max) ^^^ BitVec.ofInt k.bits a).toNat))))
  | _, _ => Q
theorem unK_out {b : UnOp} {u : AV} {x : Operand} {t : TypeId} {K : AV → Prop} {Q : Prop} (h : unK b u K Q) : (∃ r, K r ∧ Does P (.unOp b t x) ty L n [u] e0 r) ∨ Q := by
  unfold unK at h
  split at h
  · exact .inl ⟨_, h, does_lit1 rfl fun o w ev ho h1 => by simp [execOp, ho, h1, Op.unary]⟩
  · exact .inl ⟨_, h, does_lit1 rfl fun o w ev ho h1 => by simp [execOp, ho, h1, Op.unary, Op.intArith]⟩
  · exact .inl ⟨_, h, does_lit1 rfl fun o w ev ho h1 => by simp [execOp, ho, h1, Op.unary, Op.intBits]⟩
  · exact .inr h
end
end Go.Proofs.Ytgidaifoiljgoaa
