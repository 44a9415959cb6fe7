/- Regions and code in abstract values: the conditions, and that they suffice. No program is named here. -/
import Derived.Test.YtgidaifoiljgoaaVcS
namespace Go.Proofs.Ytgidaifoiljgoaa
set_option linter.unusedSimpArgs false
set_option linter.unusedVariables false
open Go.RowKit
def callFK (P : Program) (E : Nat → Bool) (g : FuncId) (args : List AV) (L : List AObj) (K : Eff → AV → Prop) (Q : Prop) : Prop :=
  match E g with
  | true => lenNK L fun n => ∃ e r, CallOK P g args L n e r ∧ fRes r (K e)
  | false => Q
def pickK (c x y : AV) (K : Eff → AV → Prop) : Prop :=
  match c with
  | .d (.v (.bool b)) => (b = true → fAV x (K e0)) ∧ (b = false → fAV y (K e0))
  | _ => False
theorem pickK_out {P : Program} {L : List AObj} {ty n : Nat} {c x y : AV} {a b d : Operand} {K : Eff → AV → Prop} (h : pickK c x y K) : ∃ e r, K e r ∧ Does P (.pick a b d) ty L n [c, x, y] e r := by
  unfold pickK at h
  split at h
  · rename_i q
    cases q with
    | true =>
      refine ⟨_, _, fAV_iff.1 (h.1 rfl), does_val fun o w F ρ ev ho _ hx => ?_⟩
      obtain ⟨v1, v2, v3, e, h1, h2, h3⟩ := hx.three_out
      simp [Op.operands] at e
      have := h1.v_out
      subst this
      exact ⟨v2, by simp [execOp, ho, e.1, e.2.1, asBool], h2⟩
    | false =>
      refine ⟨_, _, fAV_iff.1 (h.2 rfl), does_val fun o w F ρ ev ho _ hx => ?_⟩
      obtain ⟨v1, v2, v3, e, h1, h2, h3⟩ := hx.three_out
      simp [Op.operands] at e
      have := h1.v_out
      subst this
      exact ⟨v3, by simp [execOp, ho, e.1, e.2.2, asBool], h3⟩
  · exact h.elim
def opK (P : Program) (T : TypeId → TI) (E : Nat → Bool) (op : Op) (ty : TypeId) (ev : Operand → AV) (L : List AObj) (K : Eff → AV → Prop) : Prop :=
  match op with
  | .move x => fAV (ev x) (K e0)
  | .assign x => fAV (ev x) (K e0)
  | .box t x => objK (T t).size (ev x) fun o => lenNK L fun n => K ⟨[], [], [o]⟩ (.ptr n 0)
  | .alloc t => zeroK (T t) fun o => lenNK L fun n => K ⟨[], [], [o]⟩ (.ptr n 0)
  | .load t a => loadK (T t) (ev a) L K
  | .store t a x => storeK (T t) (ev a) (ev x) L K
  | .nilCheck x => nilCheckK (ev x) K
  | .binOp b t x y t' => binK b (ev x) (ev y) (K e0) (otherK P (.binOp b t x y t') ty ev L K)
  | .convert src dst x => convK T src dst (ev x) K (otherK P (.convert src dst x) ty ev L K)
  | .buildSlice t len ps => buildSliceK T t len ps.toList ev L K
  | .build t ps => buildK T t ps.toList ev K
  | .makeFunc fn first caps => evsK ev first.toList fun xs => evsK ev caps.toList fun ys => K e0 (.fn fn xs ys)
  | .call { callee := .builtin .max, args := ⟨[a, b]⟩, argTypes := ts } => mmK true (ev a) (ev b) K (otherK P (.call { callee := .builtin .max, args := ⟨[a, b]⟩, argTypes := ts }) ty ev L K)
  | .call { callee := .builtin .min, args := ⟨[a, b]⟩, argTypes := ts } => mmK false (ev a) (ev b) K (otherK P (.call { callee := .builtin .min, args := ⟨[a, b]⟩, argTypes := ts }) ty ev L K)
  | .unOp u t x => unK u (ev x) (K e0) False
  | .pick c x y => pickK (ev c) (ev x) (ev y) K
  | .extract x i => extractK (ev x) i K
  | .field t x f => fieldK T t f (ev x) K
  | .fieldAddr t x f => fieldAddrK T t f (ev x) K
  | .indexAddr t x i => indexAddrK (T t) (ev x) (ev i) L K
  | .index t x i => indexK (T t) (T (T t).elem) (ev x) (ev i) K
  | .call { callee := .builtin .len, args := ⟨[a]⟩, argTypes := ⟨[t]⟩ } => lenBK (T t) (ev a) L K
  | .call { callee := .value f, args := as, argTypes := ats } => match ev f with
    | .fn (.func g) first caps => evsK ev as.toList fun xs => appK xs caps fun l => appK first l fun l => callFK P E g l L K (otherK P (.call { callee := .value f, args := as, argTypes := ats }) ty ev L K)
    | _ => False
  | op => otherK P op ty ev L K
/-- The program's functions that are entered by a call. -/
def entersB (P : Program) (g : FuncId) : Bool := match P.funcs[g]? with | some fn => fn.name != "runtime.NumGoroutine" && !fn.body.isNone | none => false
theorem run_enter {P : Program} {g : FuncId} (h : entersB P g = true) (args : Array Value) (w : World) : (callFunc g args).run P w = .ok (.enter g args) w := by
  unfold entersB at h
  cases hf : P.funcs[g]? with
  | none => rw [hf] at h; cases h
  | some fn =>
    rw [hf] at h
    simp at h
    have hb : fn.body.isNone = false := by have := h.2; cases hq : fn.body <;> simp_all
    simp only [callFunc, Sem.run_bind, run_program, Result.andThen_ok, hf, hb]
    simp [h.1]
section
variable {P : Program} {w w' : World} {F F' : Nat → Prop} {ρ ρ' : Nat → Option Value} {H : Hp} {L : List AObj} {ty : TypeId} {T : TypeId → TI} {E : Nat → Bool}
theorem callFK_out {g : FuncId} {args : List AV} {K : Eff → AV → Prop} {Q : Prop} (h : callFK P E g args L K Q) : (E g = true ∧ ∃ e r, K e r ∧ CallOK P g args L L.length e r) ∨ Q := by
  unfold callFK at h
  split at h
  · rename_i he
    obtain ⟨e, r, h1, h2⟩ := natK_iff.1 h
    exact .inl ⟨he, e, r, fRes_out h2, h1⟩
  · exact .inr h
theorem RAs.map_app {xs ys : List AV} {vs : List Value} (h : RAs w F ρ (xs ++ ys) vs) : ∃ us ts, vs = us ++ ts ∧ RAs w F ρ xs us ∧ RAs w F ρ ys ts := by
  induction xs generalizing vs with
  | nil => exact ⟨[], vs, rfl, .nil, h⟩
  | cons x xs ih => cases h with | cons h hr => obtain ⟨us, ts, rfl, a, b⟩ := ih hr; exact ⟨_ :: us, ts, rfl, .cons h a, b⟩
theorem opK_out (hT : T = tiOf P) (hE : ∀ g, E g = true → entersB P g = true) {op : Op} {ev : Operand → AV} {K : Eff → AV → Prop} (h : opK P T E op ty ev L K) :
    ∃ e r, K e r ∧ Does P op ty L L.length (op.operands.toList.map ev) e r := by
  subst hT
  unfold opK at h
  split at h
  · exact ⟨_, _, fAV_iff.1 h, does_move _ _⟩
  · exact ⟨_, _, fAV_iff.1 h, does_assign _ _⟩
  · obtain ⟨o, h1, h2⟩ := objK_out h
    exact ⟨_, _, natK_iff.1 h1, does_box _ _ h2⟩
  · obtain ⟨o, z, i, h1, h2, h3, h4⟩ := zeroK_out h
    exact ⟨_, _, natK_iff.1 h1, does_alloc h2 h3 h4⟩
  · exact loadK_out h
  · exact storeK_out h
  · exact nilCheckK_out h
  · exact (binK_out h).elim (fun ⟨r, h1, h2⟩ => ⟨_, r, h1, h2⟩) otherK_out
  · exact (convK_out h).elim id otherK_out
  · exact buildSliceK_out h
  · exact buildK_out h
  · exact ⟨_, _, evsK_out (evsK_out h), does_makeFunc⟩
  · exact (mmK_out (mx := true) h).elim id otherK_out
  · exact (mmK_out (mx := false) h).elim id otherK_out
  · exact (unK_out h).elim (fun ⟨r, h1, h2⟩ => ⟨_, r, h1, h2⟩) False.elim
  · exact pickK_out h
  · exact extractK_out h
  · exact fieldK_out h
  · exact fieldAddrK_out h
  · exact indexAddrK_out h
  · exact indexK_out h
  · exact lenBK_out h
  · rename_i f as ats
    split at h
    · rename_i g first caps hf
      rcases callFK_out (appK_out (appK_out (evsK_out h))) with ⟨hg, e, r, hK, hC⟩ | h
      case inr => exact otherK_out h
      refine ⟨e, r, hK, fun o H F ρ w ev' ho _ En hrs hn hx => ?_⟩
      have hops : (Op.operands (.call { callee := .value f, args := as, argTypes := ats })).toList = f :: as.toList := by simp [Op.operands, Call.operands]
      rw [hops, List.map_cons, List.map_cons] at hx
      cases hx with | cons hfv hx =>
        rw [hf] at hfv
        generalize hvf : ev' f = vf at hfv
        cases hfv with | fn hfirst hcaps =>
          rename_i us vs
          have hrun : (execOp ev' o).run P w = .ok (.enter g (us ++ (as.toList.map ev' ++ vs)).toArray) w := by
            have he := run_enter (hE g hg) (us ++ (as.toList.map ev' ++ vs)).toArray w
            simp [execOp, ho, resolve, hvf, Deferred.ofValue, invoke]
            have e1 : (us.toArray ++ (Array.map ev' as ++ vs.toArray)) = (us ++ (as.toList.map ev' ++ vs)).toArray := by
              apply Array.ext'
              simp
            rw [e1]
            exact he
          rw [hrun]
          exact hC H F ρ w _ En hrs hn (hfirst.app (hx.app hcaps))
    · exact h.elim
  · exact otherK_out h
end
end Go.Proofs.Ytgidaifoiljgoaa
