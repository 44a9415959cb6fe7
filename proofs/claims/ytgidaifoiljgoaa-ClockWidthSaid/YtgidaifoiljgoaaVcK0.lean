/- Small things that write out what the conditions speak of. No program is named here. -/
import Derived.Test.YtgidaifoiljgoaaVcJ
import Derived.LoopN
namespace Go.Proofs.Ytgidaifoiljgoaa
set_option linter.unusedSimpArgs false
set_option linter.unusedVariables false
open Go.RowKit
abbrev Tm := List (Nat × AV)
def lk : Tm → Nat → AV
  | [], _ => .any
  | (s, x) :: r, d => match Nat.beq s d with | true => x | false => lk r d
def constAV (v : Value) : AV :=
  match v with
  | .agg cs => match cs.toList.all (·.oneCell') with
    | true => .d (.agg (cs.toList.map .v))
    | false => .any
  | .bool b => .d (.v (.bool b))
  | .int k z => .d (.v (.int k z))
  | .string s => .d (.v (.string s))
  | v => .d (.v v)
def evAV (tm : Tm) : Operand → AV
  | .tmp t => lk tm t
  | .const v => constAV v
  | .global g => .d (.v (.pointer (some ⟨g, 0, none⟩)))
  | .func f => .fn (.func f) [] []
/-- A number written out. -/
def natK (n : Nat) (k : Nat → Prop) : Prop :=
  match n with
  | 0 => k 0 | 1 => k 1 | 2 => k 2 | 3 => k 3 | 4 => k 4 | 5 => k 5 | 6 => k 6 | 7 => k 7 | 8 => k 8 | 9 => k 9
  | 10 => k 10 | 11 => k 11 | 12 => k 12 | 13 => k 13 | 14 => k 14 | 15 => k 15 | 16 => k 16 | 17 => k 17 | 18 => k 18 | 19 => k 19
  | m => k m
theorem natK_iff {n : Nat} {k : Nat → Prop} : natK n k ↔ k n := by
  unfold natK
  split <;> rfl
def lenNK {α : Type} (l : List α) (k : Nat → Prop) : Prop := natK l.length k
def evsK (ev : Operand → AV) : List Operand → (List AV → Prop) → Prop
  | [], k => k []
  | o :: r, k => fAV (ev o) fun x => evsK ev r fun l => k (x :: l)
theorem evsK_out {ev : Operand → AV} : ∀ {os : List Operand} {k : List AV → Prop}, evsK ev os k → k (os.map ev)
  | [], _, h => h
  | _ :: r, _, h => evsK_out (os := r) (fAV_iff.1 h)
def appK {α : Type} : List α → List α → (List α → Prop) → Prop
  | [], ys, k => k ys
  | x :: r, ys, k => appK r ys fun l => k (x :: l)
theorem appK_out {α : Type} {ys : List α} : ∀ {xs : List α} {k : List α → Prop}, appK xs ys k → k (xs ++ ys)
  | [], _, h => h
  | _ :: r, _, h => appK_out (xs := r) h
def fAVs : List AV → (List AV → Prop) → Prop
  | [], k => k []
  | x :: r, k => fAV x fun y => fAVs r fun l => k (y :: l)
theorem fAVs_iff : ∀ {xs : List AV} {k : List AV → Prop}, fAVs xs k → k xs
  | [], _, h => h
  | _ :: r, _, h => fAVs_iff (xs := r) (fAV_iff.1 h)
/-- A result, written out one step deep. -/
def fRes (x : AV) (k : AV → Prop) : Prop :=
  fAV x fun x => match x with
  | .tup xs => fAVs xs fun l => k (.tup l)
  | .agg xs => fAVs xs fun l => k (.agg l)
  | x => k x
theorem fRes_out {x : AV} {k : AV → Prop} (h : fRes x k) : k x := by
  have h := fAV_iff.1 h
  split at h
  · exact fAVs_iff h
  · exact fAVs_iff h
  · exact h
def fObj (o : AObj) (k : AObj → Prop) : Prop :=
  fO o fun o => match o with
  | .cells cs => fAVs cs fun l => k (.cells l)
  | o => k o
theorem fObj_out {o : AObj} {k : AObj → Prop} (h : fObj o k) : k o := by
  have h := fO_iff.1 h
  split at h
  · exact fAVs_iff h
  · exact h
def otherK (P : Program) (op : Op) (ty : TypeId) (ev : Operand → AV) (L : List AObj) (K : Eff → AV → Prop) : Prop :=
  evsK ev op.operands.toList fun xs => lenNK L fun n => ∃ e r, Does P op ty L n xs e r ∧ fRes r (K e)
section
variable {P : Program} {L : List AObj} {ty : TypeId}
theorem otherK_out {op : Op} {ev : Operand → AV} {K : Eff → AV → Prop} (h : otherK P op ty ev L K) : ∃ e r, K e r ∧ Does P op ty L L.length (op.operands.toList.map ev) e r := by
  obtain ⟨e, r, h1, h2⟩ := natK_iff.1 (evsK_out h)
  exact ⟨e, r, fRes_out h2, h1⟩
end
end Go.Proofs.Ytgidaifoiljgoaa
