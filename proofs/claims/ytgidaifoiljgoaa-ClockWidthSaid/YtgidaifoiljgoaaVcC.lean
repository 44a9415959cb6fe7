/- What an operation does, in abstract values. No program is named here. -/
import Derived.Test.YtgidaifoiljgoaaVcB
namespace Go.Proofs.Ytgidaifoiljgoaa
set_option linter.unusedSimpArgs false
set_option linter.unusedVariables false
open Go.RowKit
/-! ### types -/
inductive TKind where
  | non | one | st | arr | sli
structure TI where
  kind : TKind
  size : Nat
  zero : List Value
  fields : List (Nat × Nat)
  elem : Nat
  esize : Nat
  len : Nat
  ebytes : Nat
  tag : Nat
def tagOf : TypeDesc → Nat
  | .bool => 1
  | .int k => match k with | .i8 => 20 | .i16 => 21 | .i32 => 22 | .i64 => 23 | .u8 => 24 | .u16 => 25 | .u32 => 26 | .u64 => 27
  | .string => 3
  | .pointer _ => 4
  | .func .. => 5
  | .map .. => 6
  | .interface _ => 7
  | _ => 0
def tiOf (P : Program) (t : TypeId) : TI :=
  match P.info? t, P.underlying t with
  | some i, some d =>
    match i.zero with
    | some z =>
      if z.cells.toList.all (·.oneCell') && z.cells.size == i.size then
        match d with
        | .struct fs => ⟨.st, i.size, z.cells.toList, fs.toList.map fun f => (f.offset, f.type), 0, 0, 0, 0, 0⟩
        | .array n e => ⟨.arr, i.size, z.cells.toList, [], e, P.cellsOf e, n, P.bytesOf e, 0⟩
        | .slice e => ⟨.sli, i.size, z.cells.toList, [], e, P.cellsOf e, 0, P.bytesOf e, 0⟩
        | d => ⟨.one, i.size, z.cells.toList, [], 0, 0, 0, 0, tagOf d⟩
      else ⟨.non, 0, [], [], 0, 0, 0, 0, 0⟩
    | none => ⟨.non, 0, [], [], 0, 0, 0, 0, 0⟩
  | _, _ => ⟨.non, 0, [], [], 0, 0, 0, 0, 0⟩
/-- What a known kind of type tells. -/
structure TIs (P : Program) (t : TypeId) (i : TypeInfo) (d : TypeDesc) (z : Value) : Prop where
  info : P.info? t = some i
  und : P.underlying t = some d
  zero : i.zero = some z
  size : z.cells.size = i.size
  ones : ∀ v ∈ z.cells.toList, v.oneCell' = true
theorem tiOf_known {P : Program} {t : TypeId} (h : (tiOf P t).kind ≠ .non) : ∃ i d z, TIs P t i d z ∧ tiOf P t = (match d with
        | .struct fs => ⟨.st, i.size, z.cells.toList, fs.toList.map fun f => (f.offset, f.type), 0, 0, 0, 0, 0⟩
        | .array n e => ⟨.arr, i.size, z.cells.toList, [], e, P.cellsOf e, n, P.bytesOf e, 0⟩
        | .slice e => ⟨.sli, i.size, z.cells.toList, [], e, P.cellsOf e, 0, P.bytesOf e, 0⟩
        | d => ⟨.one, i.size, z.cells.toList, [], 0, 0, 0, 0, tagOf d⟩) := by
  unfold tiOf at h ⊢
  cases hi : P.info? t with
  | none => simp [hi] at h
  | some i =>
    cases hd : P.underlying t with
    | none => simp [hi, hd] at h
    | some d =>
      cases hz : i.zero with
      | none => simp [hi, hd, hz] at h
      | some z =>
        cases hc : (z.cells.toList.all (·.oneCell') && z.cells.size == i.size) with
        | true =>
          have hc' := hc
          simp only [Bool.and_eq_true, List.all_eq_true, beq_iff_eq] at hc
          exact ⟨i, d, z, ⟨hi, hd, hz, hc.2, hc.1⟩, by simp only [hz, hc', if_true]⟩
        | false =>
          simp only [hi, hd, hz, hc] at h
          exact absurd rfl h
/-! ### reading in lists, so that what comes out is written out -/
def fAV (x : AV) (k : AV → Prop) : Prop :=
  match x with
  | .d y => (match y with | .v u => k (.d (.v u)) | .agg ds => k (.d (.agg ds)) | .sl s r => k (.d (.sl s r)))
  | .ptr i o => k (.ptr i o)
  | .own i => k (.own i)
  | .ep i s a f => k (.ep i s a f)
  | .fp xs => k (.fp xs)
  | .agg xs => k (.agg xs)
  | .tup xs => k (.tup xs)
  | .fn f a b => k (.fn f a b)
  | .mp i => k (.mp i)
  | .any => k .any
theorem fAV_iff {x : AV} {k : AV → Prop} : fAV x k ↔ k x := by
  cases x <;> try rfl
  rename_i y
  cases y <;> rfl
def fD (x : D) (k : D → Prop) : Prop :=
  match x with | .v u => k (.v u) | .agg ds => k (.agg ds) | .sl s r => k (.sl s r)
theorem fD_iff {x : D} {k : D → Prop} : fD x k ↔ k x := by cases x <;> rfl
def getK : List AV → Nat → (AV → Prop) → Prop
  | [], _, _ => False
  | x :: _, 0, k => fAV x k
  | _ :: r, n + 1, k => getK r n k
theorem getK_out {k : AV → Prop} : ∀ {xs : List AV} {n : Nat}, getK xs n k → ∃ x, xs[n]? = some x ∧ k x
  | [], _, h => h.elim
  | x :: _, 0, h => ⟨x, rfl, fAV_iff.1 h⟩
  | _ :: r, n + 1, h => by simpa using getK_out (xs := r) (n := n) h
def getDK : List D → Nat → (D → Prop) → Prop
  | [], _, _ => False
  | x :: _, 0, k => fD x k
  | _ :: r, n + 1, k => getDK r n k
theorem getDK_out {k : D → Prop} : ∀ {xs : List D} {n : Nat}, getDK xs n k → ∃ x, xs[n]? = some x ∧ k x
  | [], _, h => h.elim
  | x :: _, 0, h => ⟨x, rfl, fD_iff.1 h⟩
  | _ :: r, n + 1, h => by simpa using getDK_out (xs := r) (n := n) h
def dropK {α : Type} : List α → Nat → (List α → Prop) → Prop
  | xs, 0, k => k xs
  | [], _ + 1, _ => False
  | _ :: r, n + 1, k => dropK r n k
theorem dropK_out {α : Type} {k : List α → Prop} : ∀ {xs : List α} {n : Nat}, dropK xs n k → n ≤ xs.length ∧ k (xs.drop n)
  | xs, 0, h => ⟨Nat.zero_le _, by cases xs <;> exact h⟩
  | [], _ + 1, h => h.elim
  | _ :: r, n + 1, h => by have := dropK_out (xs := r) (n := n) h; exact ⟨by simp; exact this.1, by simpa using this.2⟩
def takeK {α : Type} : List α → Nat → (List α → Prop) → Prop
  | _, 0, k => k []
  | [], _ + 1, _ => False
  | x :: r, n + 1, k => takeK r n fun l => k (x :: l)
theorem takeK_out {α : Type} : ∀ {xs : List α} {n : Nat} {k : List α → Prop}, takeK xs n k → n ≤ xs.length ∧ k (xs.take n)
  | xs, 0, k, h => ⟨Nat.zero_le _, by simpa [takeK] using h⟩
  | [], _ + 1, _, h => h.elim
  | x :: r, n + 1, k, h => by have := takeK_out (xs := r) (n := n) h; exact ⟨by simp; exact this.1, by simpa using this.2⟩
def setK {α : Type} : List α → Nat → α → (List α → Prop) → Prop
  | [], _, _, _ => False
  | _ :: r, 0, v, k => k (v :: r)
  | x :: r, n + 1, v, k => setK r n v fun l => k (x :: l)
theorem setK_out {α : Type} {v : α} : ∀ {xs : List α} {n : Nat} {k : List α → Prop}, setK xs n v k → n < xs.length ∧ k (xs.set n v)
  | [], _, _, h => h.elim
  | x :: r, 0, k, h => ⟨by simp, by simpa [setK] using h⟩
  | x :: r, n + 1, k, h => by have := setK_out (xs := r) (n := n) h; exact ⟨by simp; exact this.1, by simpa using this.2⟩
/-- Some cells from place n on are others. -/
def sets {α : Type} : List α → Nat → List α → List α
  | xs, _, [] => xs
  | xs, n, v :: vs => sets (xs.set n v) (n + 1) vs
def setsK {α : Type} : List α → Nat → List α → (List α → Prop) → Prop
  | xs, _, [], k => k xs
  | xs, n, v :: vs, k => setK xs n v fun l => setsK l (n + 1) vs k
theorem setsK_out {α : Type} {k : List α → Prop} : ∀ {vs xs : List α} {n : Nat}, setsK xs n vs k → n + vs.length ≤ xs.length ∨ vs = [] ∧ k xs
  | [], xs, n, h => .inr ⟨rfl, h⟩
  | v :: vs, xs, n, h => by
    obtain ⟨h1, h2⟩ := setK_out h
    rcases setsK_out h2 with h3 | ⟨h3, _⟩
    · left; simp at h3 ⊢; omega
    · subst h3; left; simp; omega
theorem setsK_val {α : Type} {k : List α → Prop} : ∀ {vs xs : List α} {n : Nat}, setsK xs n vs k → k (sets xs n vs)
  | [], xs, n, h => h
  | v :: vs, xs, n, h => setsK_val (xs := xs.set n v) (n := n + 1) (vs := vs) (setK_out h).2
theorem length_sets {α : Type} : ∀ (vs xs : List α) (n : Nat), (sets xs n vs).length = xs.length
  | [], xs, n => rfl
  | v :: vs, xs, n => by rw [sets, length_sets]; simp
def allDK : List AV → (List D → Prop) → Prop → Prop
  | [], k, _ => k []
  | .d x :: r, k, q => allDK r (fun l => k (x :: l)) q
  | _ :: _, _, q => q
theorem allDK_out {q : Prop} : ∀ {xs : List AV} {k : List D → Prop}, allDK xs k q → (∃ ds, xs = ds.map .d ∧ k ds) ∨ q
  | [], k, h => .inl ⟨[], rfl, h⟩
  | .d x :: r, k, h => (allDK_out (xs := r) h).elim (fun ⟨ds, e, hk⟩ => .inl ⟨x :: ds, by rw [e]; rfl, hk⟩) .inr
  | .ptr .. :: _, _, h => .inr h
  | .own .. :: _, _, h => .inr h
  | .ep .. :: _, _, h => .inr h
  | .fp .. :: _, _, h => .inr h
  | .agg .. :: _, _, h => .inr h
  | .tup .. :: _, _, h => .inr h
  | .fn .. :: _, _, h => .inr h
  | .mp .. :: _, _, h => .inr h
  | .any :: _, _, h => .inr h
/-- The value of cells. -/
def mkAggK (xs : List AV) (k : AV → Prop) : Prop := allDK xs (fun ds => k (.d (.agg ds))) (k (.agg xs))
theorem mkAggK_out {xs : List AV} {k : AV → Prop} (h : mkAggK xs k) : ∃ r, k r ∧ ∀ w F ρ vs, RAs w F ρ xs vs → (∀ v ∈ vs, v.oneCell' = true) → RA w F ρ r (.agg vs.toArray) := by
  rcases allDK_out h with ⟨ds, rfl, hk⟩ | hk
  · exact ⟨_, hk, fun w F ρ vs hr h1 => .d (.agg (hr.toD h1))⟩
  · exact ⟨_, hk, fun w F ρ vs hr h1 => .agg hr h1⟩
/-! ### what an operation does -/
structure Eff where
  rs : List Nat
  ws : List (Nat × AObj)
  news : List AObj
def appW : List (Nat × AObj) → Hp → Hp
  | [], H => H
  | (i, o) :: r, H => appW r (updF H i (some o))
def appN : Nat → List AObj → Hp → Hp
  | _, [], H => H
  | n, o :: r, H => appN (n + 1) r (updF H n (some o))
def Post (F : Nat → Prop) (ρ : Nat → Option Value) (H : Hp) (w : World) (H' : Hp) (r : AV) (v : Value) (w' : World) : Prop :=
  ∃ F' ρ', Step F ρ H w F' ρ' H' w' ∧ Keep ρ ρ' ∧ Env F' ρ' H' w' ∧ RA w' F' ρ' r v
def Runs (P : Program) (s : Result Next) (post : Value → World → Prop) : Prop :=
  match s with
  | .ok (.value v) w' => post v w'
  | .ok .skip w' => post undef w'
  | .ok (.enter f args) w' => Calls P f args w' fun e w'' => ∃ v, e = .returned v ∧ post v w''
  | _ => False
def Does (P : Program) (op : Op) (ty : TypeId) (L : List AObj) (n : Nat) (xs : List AV) (e : Eff) (r : AV) : Prop :=
  ∀ (o : Oper) (H : Hp) (F : Nat → Prop) (ρ : Nat → Option Value) (w : World) (ev : Operand → Value), o.op = op → o.type = ty → Env F ρ H w → (∀ i ∈ e.rs, H i = L[i]?) → (∀ k, k < e.news.length → H (n + k) = none) →
    RAs w F ρ xs (op.operands.toList.map ev) → Runs P ((execOp ev o).run P w) (Post F ρ H w (appN n e.news (appW e.ws H)) r)
theorem Post.same {F : Nat → Prop} {ρ : Nat → Option Value} {H : Hp} {w : World} {r : AV} {v : Value} (E : Env F ρ H w) (h : RA w F ρ r v) : Post F ρ H w H r v w := ⟨F, ρ, Step.refl _ _ _ _, Keep.refl _, E, h⟩
end Go.Proofs.Ytgidaifoiljgoaa
