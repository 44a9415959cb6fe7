/- Operations on slices, as they are asked for by the conditions. No program is named here. -/
import Derived.Test.YtgidaifoiljgoaaVcU
namespace Go.Proofs.Ytgidaifoiljgoaa
set_option linter.unusedSimpArgs false
set_option linter.unusedVariables false
open Go.RowKit
def slB (P : Program) (t s b : Nat) : Bool :=
  match (tiOf P t).kind with
  | .sli => Nat.beq (tiOf P t).esize s && Nat.blt 0 s && Nat.beq (tiOf P t).ebytes b && Nat.blt 0 b && (match (tiOf P (tiOf P t).elem).kind with | .non => false | _ => true)
  | _ => false
section
variable {P : Program} {w w' : World} {F F' : Nat → Prop} {ρ ρ' : Nat → Option Value} {H : Hp} {L : List AObj} {ty n t s b i j : Nat} {rows rows2 : List (List D)} {sx xx a1 a2 : Operand} {c lo hi : Nat} {kd kd' kl kh : IntKind}
theorem slB_out (h : slB P t s b = true) : (tiOf P t).kind = .sli ∧ (tiOf P t).esize = s ∧ 0 < s ∧ (tiOf P t).ebytes = b ∧ 0 < b ∧ (tiOf P (tiOf P t).elem).kind ≠ .non := by
  unfold slB at h
  split at h
  · rename_i hk
    simp only [Bool.and_eq_true, Nat.blt_eq] at h
    refine ⟨hk, Nat.eq_of_beq_eq_true h.1.1.1.1, h.1.1.1.2, Nat.eq_of_beq_eq_true h.1.1.2, h.1.2, fun e => ?_⟩
    have := h.2
    rw [e] at this; cases this
  · cases h
theorem le_max {k b : Nat} (hb : 0 < b) (h : k * b ≤ 140737488355328) : k ≤ maxLen := by
  have : k ≤ k * b := Nat.le_mul_of_pos_right _ hb
  unfold maxLen; omega
theorem mk0 (s b : Nat) (h : slB P t s b = true) (hb : b * c ≤ 281474976710656) (hm : c ≤ maxLen) : Does P (.makeSlice t a1 a2) ty L n [.d (.v (.int kd 0)), .d (.v (.int kd' c))] ⟨[], [], [.sl s []]⟩ (.own n) := by
  obtain ⟨h1, h2, h3, h4, _, h5⟩ := slB_out h
  exact does_make0 h1 h2 h3 h5 (by rw [h4]; exact hb) hm
theorem ap (s b : Nat) (h : slB P t s b = true) (hi : L[i]? = some (.sl s rows)) (hj : L[j]? = some (.sl s rows2)) (hb : (rows.length + rows2.length) * b ≤ 140737488355328) : Does P (.call { callee := .builtin .append, args := #[sx, xx], argTypes := #[t, t] }) ty L n [.own i, .own j] ⟨[i, j], [(i, .dead)], [.sl s (rows ++ rows2)]⟩ (.own n) := by
  obtain ⟨h1, h2, h3, h4, h6, h5⟩ := slB_out h
  subst h4
  exact does_append h1 h2 h3 h5 hi (.inr (.inl ⟨j, rfl, hj, rfl⟩)) hb (le_max h6 hb)
/-- .. of data. -/
theorem apd (s b : Nat) (h : slB P t s b = true) (hi : L[i]? = some (.sl s rows)) (hb : (rows.length + rows2.length) * b ≤ 140737488355328) : Does P (.call { callee := .builtin .append, args := #[sx, xx], argTypes := #[t, t] }) ty L n [.own i, .d (.sl s rows2)] ⟨[i], [(i, .dead)], [.sl s (rows ++ rows2)]⟩ (.own n) := by
  obtain ⟨h1, h2, h3, h4, h6, h5⟩ := slB_out h
  subst h4
  exact does_append h1 h2 h3 h5 hi (.inl ⟨rfl, rfl⟩) hb (le_max h6 hb)
/-- .. onto nil. -/
theorem ap0 (s b : Nat) (h : slB P t s b = true) (hj : L[j]? = some (.sl s rows2)) (hb : rows2.length * b ≤ 140737488355328) : Does P (.call { callee := .builtin .append, args := #[sx, xx], argTypes := #[t, t] }) ty L n [.d (.v (.slice none 0 0)), .own j] ⟨[j], [], [.sl s rows2]⟩ (.own n) := by
  obtain ⟨h1, h2, h3, h4, h6, h5⟩ := slB_out h
  subst h4
  exact does_append_nil h1 h2 h3 h5 (.inr (.inl ⟨j, rfl, hj, rfl⟩)) hb (le_max h6 hb)
theorem ap0d (s b : Nat) (h : slB P t s b = true) (hb : rows2.length * b ≤ 140737488355328) : Does P (.call { callee := .builtin .append, args := #[sx, xx], argTypes := #[t, t] }) ty L n [.d (.v (.slice none 0 0)), .d (.sl s rows2)] ⟨[], [], [.sl s rows2]⟩ (.own n) := by
  obtain ⟨h1, h2, h3, h4, h6, h5⟩ := slB_out h
  subst h4
  exact does_append_nil h1 h2 h3 h5 (.inl ⟨rfl, rfl⟩) hb (le_max h6 hb)
theorem mkf (s b : Nat) (h : slB P t s b = true) (hb : b * c ≤ 281474976710656) (hm : c ≤ maxLen) : Does P (.makeSlice t a1 a2) ty L n [.d (.v (.int kd c)), .d (.v (.int kd' c))] ⟨[], [], [.sl s (List.replicate c ((tiOf P (tiOf P t).elem).zero.map .v))]⟩ (.own n) := by
  obtain ⟨h1, h2, h3, h4, _, h5⟩ := slB_out h
  exact does_make h1 h2 h3 h5 (by rw [h4]; exact hb) hm
theorem sl_d (s b : Nat) (h : slB P t s b = true) (h1 : lo ≤ hi) (h2 : hi ≤ rows.length) : Does P (.slice t sx (some a1) (some a2) none) ty L n [.d (.sl s rows), .d (.v (.int kl lo)), .d (.v (.int kh hi))] e0 (.d (.sl s ((rows.take hi).drop lo))) := by
  obtain ⟨g1, g2, g3, _⟩ := slB_out h
  exact does_piece g1 g2 g3 h1 h2
theorem from_d (s b : Nat) (h : slB P t s b = true) (h1 : lo ≤ rows.length) : Does P (.slice t sx (some a1) none none) ty L n [.d (.sl s rows), .d (.v (.int kl lo))] e0 (.d (.sl s (rows.drop lo))) := by
  obtain ⟨g1, g2, g3, _⟩ := slB_out h
  exact does_from g1 g2 g3 h1
theorem upto_d (s b : Nat) (h : slB P t s b = true) (h1 : hi ≤ rows.length) : Does P (.slice t sx none (some a2) none) ty L n [.d (.sl s rows), .d (.v (.int kh hi))] e0 (.d (.sl s (rows.take hi))) := by
  obtain ⟨g1, g2, g3, _⟩ := slB_out h
  exact does_upto g1 g2 g3 h1
theorem upto_o (s b : Nat) (h : slB P t s b = true) (hi' : L[i]? = some (.sl s rows)) (h1 : hi ≤ rows.length) : Does P (.slice t sx none (some a2) none) ty L n [.own i, .d (.v (.int kh hi))] ⟨[i], [(i, .dead)], [.sl s (rows.take hi)]⟩ (.own n) := by
  obtain ⟨g1, g2, g3, _⟩ := slB_out h
  exact does_own_upto g1 g2 g3 hi' h1
/-- A call with one object of the caller's. -/
theorem Sat.at1 {g : FuncId} {args : List AV} {o o' : AObj} {N : List AObj} {r : AV} (h : Sat P g args [o] r (o' :: N)) (a : Nat) (hlive : o.live = true) (hids : (AV.lts 1 args && AObj.lts 1 [o]) = true)
    (ha : L[a]? = some (o.rn (sub [a] n))) : CallOK P g (AV.rns (sub [a] n) args) L n ⟨[a], [(a, o'.rn (sub [a] n))], AObj.rns (sub [a] n) N⟩ (r.rn (sub [a] n)) :=
  h.at_ [a] L n rfl (by simp) rfl (by simp [AObj.lives, hlive]) hids fun j hj => by
    match j, hj with
    | 0, _ => exact ha
/-- .. with two. -/
theorem Sat.at2 {g : FuncId} {args : List AV} {o o' p p' : AObj} {N : List AObj} {r : AV} (h : Sat P g args [o, p] r (o' :: p' :: N)) (a b : Nat) (hab : Nat.beq a b = false) (hlive : (o.live && p.live) = true) (hids : (AV.lts 2 args && AObj.lts 2 [o, p]) = true)
    (ha : L[a]? = some (o.rn (sub [a, b] n))) (hb : L[b]? = some (p.rn (sub [a, b] n))) : CallOK P g (AV.rns (sub [a, b] n) args) L n ⟨[a, b], [(a, o'.rn (sub [a, b] n)), (b, p'.rn (sub [a, b] n))], AObj.rns (sub [a, b] n) N⟩ (r.rn (sub [a, b] n)) := by
  simp only [Bool.and_eq_true] at hlive
  have hne : a ≠ b := fun e => by subst e; simp at hab
  exact h.at_ [a, b] L n rfl (by simp [hne]) rfl (by simp [AObj.lives, hlive]) hids fun j hj => by
    match j, hj with
    | 0, _ => exact ha
    | 1, _ => exact hb
/-- .. with three. -/
theorem Sat.at3 {g : FuncId} {args : List AV} {o o' p p' q q' : AObj} {N : List AObj} {r : AV} (h : Sat P g args [o, p, q] r (o' :: p' :: q' :: N)) (a b c : Nat) (hab : (Nat.beq a b || Nat.beq a c || Nat.beq b c) = false) (hlive : (o.live && p.live && q.live) = true) (hids : (AV.lts 3 args && AObj.lts 3 [o, p, q]) = true)
    (ha : L[a]? = some (o.rn (sub [a, b, c] n))) (hb : L[b]? = some (p.rn (sub [a, b, c] n))) (hc : L[c]? = some (q.rn (sub [a, b, c] n))) :
    CallOK P g (AV.rns (sub [a, b, c] n) args) L n ⟨[a, b, c], [(a, o'.rn (sub [a, b, c] n)), (b, p'.rn (sub [a, b, c] n)), (c, q'.rn (sub [a, b, c] n))], AObj.rns (sub [a, b, c] n) N⟩ (r.rn (sub [a, b, c] n)) := by
  simp only [Bool.and_eq_true] at hlive
  simp only [Bool.or_eq_false_iff] at hab
  have h1 : a ≠ b := fun e => by subst e; simp at hab
  have h2 : a ≠ c := fun e => by subst e; simp at hab
  have h3 : b ≠ c := fun e => by subst e; simp at hab
  exact h.at_ [a, b, c] L n rfl (by simp [h1, h2, h3]) rfl (by simp [AObj.lives, hlive]) hids fun j hj => by
    match j, hj with
    | 0, _ => exact ha
    | 1, _ => exact hb
    | 2, _ => exact hc
theorem lendON {g s' : Nat} {rows' : List (List D)} {us : List Value} (h : Sat P g [.d (.sl s rows)] [] (.own 0) [.sl s' rows']) (hi : L[i]? = some (.sl s rows)) (hf : FlatVs rows'.flatten us) : CallOK P g [.own i] L n ⟨[i], [], [.sl s' rows']⟩ (.own n) := Sat.lendNew («as» := []) h hi hf
theorem lendO {g : Nat} {r : AV} (h : Sat P g [.d (.sl s rows)] [] r []) (hi : L[i]? = some (.sl s rows)) (hr : flatA r = true) : CallOK P g [.own i] L n ⟨[i], [], []⟩ r := Sat.lend1 («as» := []) h hi hr
theorem from_o (s b : Nat) (h : slB P t s b = true) (hi' : L[i]? = some (.sl s rows)) (h1 : lo ≤ rows.length) : Does P (.slice t sx (some a1) none none) ty L n [.own i, .d (.v (.int kl lo))] ⟨[i], [(i, .dead)], []⟩ (.d (.sl s (rows.drop lo))) := by
  obtain ⟨g1, g2, g3, _⟩ := slB_out h
  exact does_own_from g1 g2 g3 hi' h1
end
theorem wi {n : Int} (h1 : -9223372036854775808 ≤ n) (h2 : n ≤ 9223372036854775807) : IntKind.i64.wrap n = n := by rw [IntKind.wrap_i64]; omega
/-- A counter goes on by one. -/
theorem wk1 {k : Nat} (h : k ≤ 9223372036854775806) : AV.d (.v (.int .i64 (IntKind.i64.wrap ((k : Int) + 1)))) = AV.d (.v (.int .i64 ((k + 1 : Nat) : Int))) := by rw [wi (by omega) (by omega)]; rfl
end Go.Proofs.Ytgidaifoiljgoaa
