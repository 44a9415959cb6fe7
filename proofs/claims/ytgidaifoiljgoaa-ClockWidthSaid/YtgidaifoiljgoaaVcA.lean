/- Abstract values, the abstract heap, and what a world has to do with them. No program is named here. -/
import Derived.Test.YtgidaifoiljgoaaRow
namespace Go.Proofs.Ytgidaifoiljgoaa
set_option linter.unusedSimpArgs false
set_option linter.unusedVariables false
open Go.RowKit

/-- Data that never changes: a value, the cells of a struct or an array, a slice that is only read (rows of 'size' cells). -/
inductive D where
  | v (x : Value)
  | agg (xs : List D)
  | sl (size : Nat) (rows : List (List D))

mutual
inductive RD (w : World) (F : Nat → Prop) : D → Value → Prop
  | v (x : Value) : RD w F (.v x) x
  | agg {xs : List D} {cs : List Value} (h : RDs w F xs cs) : RD w F (.agg xs) (.agg cs.toArray)
  | sl {size : Nat} {rows : List (List D)} {A : Option Addr} {n c : Nat} {cs : List Value} (hn : rows.length = n) (hs : ∀ r ∈ rows, r.length = size) (h1 : n ≤ c) (h2 : c ≤ maxLen) (h : RDs w F rows.flatten cs)
      (hm : 0 < n → ∃ b off, A = some ⟨b, off, none⟩ ∧ F b ∧ ∀ j (h : j < cs.length), w.cell? ⟨b, off + j, none⟩ = some cs[j]) : RD w F (.sl size rows) (.slice A n c)
inductive RDs (w : World) (F : Nat → Prop) : List D → List Value → Prop
  | nil : RDs w F [] []
  | cons {x : D} {xs : List D} {v : Value} {vs : List Value} (h : RD w F x v) (h1 : v.oneCell' = true) (hr : RDs w F xs vs) : RDs w F (x :: xs) (v :: vs)
end

inductive AV where
  | d (x : D)
  | ptr (i o : Nat)
  | own (i : Nat)
  | ep (i sz k f : Nat)
  | fp (xs : List D)
  | agg (xs : List AV)
  | tup (xs : List AV)
  | fn (f : Fn) (first caps : List AV)
  | mp (i : Nat)
  | any

mutual
inductive RA (w : World) (F : Nat → Prop) (ρ : Nat → Option Value) : AV → Value → Prop
  | d {x : D} {v : Value} (h : RD w F x v) : RA w F ρ (.d x) v
  | ptr {i o b : Nat} (h : ρ i = some (.pointer (some ⟨b, 0, none⟩))) : RA w F ρ (.ptr i o) (.pointer (some ⟨b, o, none⟩))
  | own {i : Nat} {A : Option Addr} {n c : Nat} (h : ρ i = some (.slice A n c)) : RA w F ρ (.own i) (.slice A n c)
  | ep {i sz k f g off n c : Nat} (h : ρ i = some (.slice (some ⟨g, off, none⟩) n c)) : RA w F ρ (.ep i sz k f) (.pointer (some ⟨g, off + (k * sz + f), none⟩))
  | fp {xs : List D} {cs : List Value} {b off : Nat} (hb : F b) (h : RDs w F xs cs) (hc : ∀ j (h : j < cs.length), w.cell? ⟨b, off + j, none⟩ = some cs[j]) : RA w F ρ (.fp xs) (.pointer (some ⟨b, off, none⟩))
  | agg {xs : List AV} {cs : List Value} (h : RAs w F ρ xs cs) (h1 : ∀ c ∈ cs, c.oneCell' = true) : RA w F ρ (.agg xs) (.agg cs.toArray)
  | tup {xs : List AV} {cs : List Value} (h : RAs w F ρ xs cs) : RA w F ρ (.tup xs) (.tuple cs.toArray)
  | fn {f : Fn} {xs ys : List AV} {us vs : List Value} (h : RAs w F ρ xs us) (h' : RAs w F ρ ys vs) : RA w F ρ (.fn f xs ys) (.func f us.toArray vs.toArray)
  | mp {i b : Nat} (h : ρ i = some (.map (some b))) : RA w F ρ (.mp i) (.map (some b))
  | any (v : Value) : RA w F ρ .any v
inductive RAs (w : World) (F : Nat → Prop) (ρ : Nat → Option Value) : List AV → List Value → Prop
  | nil : RAs w F ρ [] []
  | cons {x : AV} {xs : List AV} {v : Value} {vs : List Value} (h : RA w F ρ x v) (hr : RAs w F ρ xs vs) : RAs w F ρ (x :: xs) (v :: vs)
end

/-! ### they stand while what they lean on stands -/
section
variable {w w' : World} {F F' : Nat → Prop} {ρ ρ' : Nat → Option Value}
mutual
theorem RD.mono (hm : ∀ b, F b → w'.heap[b]? = w.heap[b]?) (hF : ∀ b, F b → F' b) : ∀ {x : D} {v : Value}, RD w F x v → RD w' F' x v
  | _, _, .v x => .v x
  | _, _, .agg h => .agg (RDs.mono hm hF h)
  | _, _, .sl hn hs h1 h2 h h3 => .sl hn hs h1 h2 (RDs.mono hm hF h) fun hp => by
      obtain ⟨b, off, e, hb, hc⟩ := h3 hp
      exact ⟨b, off, e, hF b hb, fun j hj => (World.cell?_of_block (w := w) (hm b hb)).trans (hc j hj)⟩
theorem RDs.mono (hm : ∀ b, F b → w'.heap[b]? = w.heap[b]?) (hF : ∀ b, F b → F' b) : ∀ {xs : List D} {vs : List Value}, RDs w F xs vs → RDs w' F' xs vs
  | _, _, .nil => .nil
  | _, _, .cons h h1 hr => .cons (RD.mono hm hF h) h1 (RDs.mono hm hF hr)
end
mutual
theorem RA.mono (hm : ∀ b, F b → w'.heap[b]? = w.heap[b]?) (hF : ∀ b, F b → F' b) (hρ : ∀ i h, ρ i = some h → ρ' i = some h) : ∀ {x : AV} {v : Value}, RA w F ρ x v → RA w' F' ρ' x v
  | _, _, .d h => .d (h.mono hm hF)
  | _, _, .ptr h => .ptr (hρ _ _ h)
  | _, _, .own h => .own (hρ _ _ h)
  | _, _, .ep h => .ep (hρ _ _ h)
  | _, _, .fp hb h hc => .fp (hF _ hb) (h.mono hm hF) fun j hj => (World.cell?_of_block (w := w) (hm _ hb)).trans (hc j hj)
  | _, _, .agg h h1 => .agg (RAs.mono hm hF hρ h) h1
  | _, _, .tup h => .tup (RAs.mono hm hF hρ h)
  | _, _, .fn h h' => .fn (RAs.mono hm hF hρ h) (RAs.mono hm hF hρ h')
  | _, _, .mp h => .mp (hρ _ _ h)
  | _, _, .any v => .any v
theorem RAs.mono (hm : ∀ b, F b → w'.heap[b]? = w.heap[b]?) (hF : ∀ b, F b → F' b) (hρ : ∀ i h, ρ i = some h → ρ' i = some h) : ∀ {xs : List AV} {vs : List Value}, RAs w F ρ xs vs → RAs w' F' ρ' xs vs
  | _, _, .nil => .nil
  | _, _, .cons h hr => .cons (RA.mono hm hF hρ h) (RAs.mono hm hF hρ hr)
end
theorem RDs.length {xs : List D} : ∀ {vs : List Value}, RDs w F xs vs → vs.length = xs.length := by
  induction xs with
  | nil => intro vs h; cases h; rfl
  | cons x xs ih => intro vs h; cases h with | cons h h1 hr => simp [ih hr]
theorem RAs.length {xs : List AV} : ∀ {vs : List Value}, RAs w F ρ xs vs → vs.length = xs.length := by
  induction xs with
  | nil => intro vs h; cases h; rfl
  | cons x xs ih => intro vs h; cases h with | cons h hr => simp [ih hr]
theorem RDs.one {xs : List D} : ∀ {vs : List Value}, RDs w F xs vs → ∀ v ∈ vs, v.oneCell' = true := by
  induction xs with
  | nil => intro vs h; cases h; simp
  | cons x xs ih => intro vs h; cases h with | cons h h1 hr => simp [h1]; exact ih hr
theorem RDs.app {xs ys : List D} : ∀ {vs us : List Value}, RDs w F xs vs → RDs w F ys us → RDs w F (xs ++ ys) (vs ++ us) := by
  induction xs with
  | nil => intro vs us h k; cases h; exact k
  | cons x xs ih => intro vs us h k; cases h with | cons h h1 hr => exact .cons h h1 (ih hr k)
theorem RDs.split {xs ys : List D} : ∀ {vs : List Value}, RDs w F (xs ++ ys) vs → ∃ us ts, vs = us ++ ts ∧ RDs w F xs us ∧ RDs w F ys ts := by
  induction xs with
  | nil => intro vs h; exact ⟨[], vs, rfl, .nil, h⟩
  | cons x xs ih => intro vs h; cases h with | cons h h1 hr => obtain ⟨us, ts, rfl, a, b⟩ := ih hr; exact ⟨_ :: us, ts, rfl, .cons h h1 a, b⟩
theorem RDs.drop {xs : List D} {vs : List Value} (h : RDs w F xs vs) (k : Nat) : RDs w F (xs.drop k) (vs.drop k) := by
  induction k generalizing xs vs with
  | zero => exact h
  | succ k ih => cases h with
    | nil => exact .nil
    | cons h h1 hr => exact ih hr
theorem RDs.take {xs : List D} {vs : List Value} (h : RDs w F xs vs) (k : Nat) : RDs w F (xs.take k) (vs.take k) := by
  induction k generalizing xs vs with
  | zero => exact .nil
  | succ k ih => cases h with
    | nil => exact .nil
    | cons h h1 hr => exact .cons h h1 (ih hr)
theorem RDs.get {xs : List D} {vs : List Value} (h : RDs w F xs vs) {k : Nat} {x : D} (hx : xs[k]? = some x) : ∃ v, vs[k]? = some v ∧ RD w F x v ∧ v.oneCell' = true := by
  induction k generalizing xs vs with
  | zero => cases h with
    | nil => simp at hx
    | cons h h1 hr => simp at hx; subst hx; exact ⟨_, rfl, h, h1⟩
  | succ k ih => cases h with
    | nil => simp at hx
    | cons h h1 hr => simpa using ih hr (by simpa using hx)
theorem RDs.set {xs : List D} {vs : List Value} (h : RDs w F xs vs) (k : Nat) {x : D} {v : Value} (hx : RD w F x v) (h1 : v.oneCell' = true) : RDs w F (xs.set k x) (vs.set k v) := by
  induction k generalizing xs vs with
  | zero => cases h with
    | nil => exact .nil
    | cons h h1' hr => exact .cons hx h1 hr
  | succ k ih => cases h with
    | nil => exact .nil
    | cons h h1' hr => exact .cons h h1' (ih hr)
theorem RAs.app {xs ys : List AV} : ∀ {vs us : List Value}, RAs w F ρ xs vs → RAs w F ρ ys us → RAs w F ρ (xs ++ ys) (vs ++ us) := by
  induction xs with
  | nil => intro vs us h k; cases h; exact k
  | cons x xs ih => intro vs us h k; cases h with | cons h hr => exact .cons h (ih hr k)
theorem RAs.drop {xs : List AV} {vs : List Value} (h : RAs w F ρ xs vs) (k : Nat) : RAs w F ρ (xs.drop k) (vs.drop k) := by
  induction k generalizing xs vs with
  | zero => exact h
  | succ k ih => cases h with
    | nil => exact .nil
    | cons h hr => exact ih hr
theorem RAs.take {xs : List AV} {vs : List Value} (h : RAs w F ρ xs vs) (k : Nat) : RAs w F ρ (xs.take k) (vs.take k) := by
  induction k generalizing xs vs with
  | zero => exact .nil
  | succ k ih => cases h with
    | nil => exact .nil
    | cons h hr => exact .cons h (ih hr)
theorem RAs.get {xs : List AV} {vs : List Value} (h : RAs w F ρ xs vs) {k : Nat} {x : AV} (hx : xs[k]? = some x) : ∃ v, vs[k]? = some v ∧ RA w F ρ x v := by
  induction k generalizing xs vs with
  | zero => cases h with
    | nil => simp at hx
    | cons h hr => simp at hx; subst hx; exact ⟨_, rfl, h⟩
  | succ k ih => cases h with
    | nil => simp at hx
    | cons h hr => simpa using ih hr (by simpa using hx)
theorem RAs.set {xs : List AV} {vs : List Value} (h : RAs w F ρ xs vs) (k : Nat) {x : AV} {v : Value} (hx : RA w F ρ x v) : RAs w F ρ (xs.set k x) (vs.set k v) := by
  induction k generalizing xs vs with
  | zero => cases h with
    | nil => exact .nil
    | cons h hr => exact .cons hx hr
  | succ k ih => cases h with
    | nil => exact .nil
    | cons h hr => exact .cons h (ih hr)
theorem RAs.ofD {xs : List D} {vs : List Value} (h : RDs w F xs vs) : RAs w F ρ (xs.map .d) vs := by
  induction xs generalizing vs with
  | nil => cases h; exact .nil
  | cons x xs ih => cases h with | cons h h1 hr => exact .cons (.d h) (ih hr)
theorem RAs.toD {xs : List D} {vs : List Value} (h : RAs w F ρ (xs.map .d) vs) (h1 : ∀ v ∈ vs, v.oneCell' = true) : RDs w F xs vs := by
  induction xs generalizing vs with
  | nil => cases h; exact .nil
  | cons x xs ih => cases h with
    | cons h hr =>
      cases h with
      | d h => exact .cons h (h1 _ (List.mem_cons_self ..)) (ih hr fun v hv => h1 v (List.mem_cons_of_mem _ hv))
end

/-! ### the abstract heap -/
inductive AObj where
  | dead
  | cells (cs : List AV)
  | row (xs : List D)
  | sl (size : Nat) (rows : List (List D))
  | obj (p : Obj → Prop)
def AObj.live : AObj → Bool
  | .dead => false
  | _ => true
/-- The block behind a handle. -/
def blkOf : Value → Option Nat
  | .pointer (some a) => some a.block
  | .slice (some a) _ _ => some a.block
  | .map (some b) => some b
  | _ => none
def ORep (w : World) (F : Nat → Prop) (ρ : Nat → Option Value) (h : Value) : AObj → Prop
  | .dead => True
  | .cells cs => ∃ b t vs, h = .pointer (some ⟨b, 0, none⟩) ∧ Blk w b t vs ∧ RAs w F ρ cs vs.toList ∧ ∀ v ∈ vs.toList, v.oneCell' = true
  | .row xs => ∃ b t vs, h = .pointer (some ⟨b, 0, none⟩) ∧ Blk w b t vs ∧ RDs w F xs vs.toList
  | .sl size rows => ∃ vs, Ow w 0 0 size h rows.length vs ∧ RDs w F rows.flatten vs ∧ ∀ r ∈ rows, r.length = size
  | .obj p => ∃ b o, (h = .pointer (some ⟨b, 0, none⟩) ∨ h = .map (some b)) ∧ w.heap[b]? = some o ∧ p o
abbrev Hp := Nat → Option AObj
structure Env (F : Nat → Prop) (ρ : Nat → Option Value) (H : Hp) (w : World) : Prop where
  fb : ∀ b, F b → b < w.heap.size
  abs : ∀ i, H i = none → ρ i = none
  rep : ∀ i o, H i = some o → o.live = true → ∃ h, ρ i = some h ∧ ORep w F ρ h o ∧ ∀ b, blkOf h = some b → b < w.heap.size ∧ ¬ F b
  inj : ∀ i j o o' h h' b, H i = some o → H j = some o' → o.live = true → o'.live = true → ρ i = some h → ρ j = some h' → blkOf h = some b → blkOf h' = some b → i = j
def Lv (ρ : Nat → Option Value) (H : Hp) (b : Nat) : Prop := ∃ i o h, H i = some o ∧ o.live = true ∧ ρ i = some h ∧ blkOf h = some b
structure Step (F : Nat → Prop) (ρ : Nat → Option Value) (H : Hp) (w : World) (F' : Nat → Prop) (ρ' : Nat → Option Value) (H' : Hp) (w' : World) : Prop where
  os : w'.os = w.os
  tape : w'.tape = w.tape
  output : w'.output = w.output
  size : w.heap.size ≤ w'.heap.size
  unch : ∀ b, b < w.heap.size → ¬ Lv ρ H b → w'.heap[b]? = w.heap[b]?
  fsub : ∀ b, F b → F' b
  fsrc : ∀ b, F' b → F b ∨ w.heap.size ≤ b ∨ Lv ρ H b
  lsrc : ∀ b, Lv ρ' H' b → w.heap.size ≤ b ∨ Lv ρ H b
def Keep (ρ ρ' : Nat → Option Value) : Prop := ∀ i h, ρ i = some h → ρ' i = some h
theorem Keep.refl (ρ : Nat → Option Value) : Keep ρ ρ := fun _ _ h => h
theorem Keep.trans {a b c : Nat → Option Value} (h : Keep a b) (k : Keep b c) : Keep a c := fun i v hv => k i v (h i v hv)
section
variable {F F' F'' : Nat → Prop} {ρ ρ' ρ'' : Nat → Option Value} {H H' H'' : Hp} {w w' w'' : World}
theorem Env.notF (E : Env F ρ H w) {b : Nat} (h : F b) : ¬ Lv ρ H b := by
  rintro ⟨i, o, v, hi, hl, hv, hb⟩
  obtain ⟨v', hv', _, hk⟩ := E.rep i o hi hl
  rw [hv] at hv'
  injection hv' with e
  subst e
  exact (hk b hb).2 h
theorem Step.refl (F : Nat → Prop) (ρ : Nat → Option Value) (H : Hp) (w : World) : Step F ρ H w F ρ H w :=
  ⟨rfl, rfl, rfl, Nat.le_refl _, fun _ _ _ => rfl, fun _ h => h, fun _ h => .inl h, fun _ h => .inr h⟩
theorem Step.trans (h : Step F ρ H w F' ρ' H' w') (k : Step F' ρ' H' w' F'' ρ'' H'' w'') : Step F ρ H w F'' ρ'' H'' w'' where
  os := k.os.trans h.os
  tape := k.tape.trans h.tape
  output := k.output.trans h.output
  size := Nat.le_trans h.size k.size
  unch b hb hl := (k.unch b (Nat.lt_of_lt_of_le hb h.size) fun hl' => (h.lsrc b hl').elim (fun e => absurd e (by omega)) hl).trans (h.unch b hb hl)
  fsub b hb := k.fsub b (h.fsub b hb)
  fsrc b hb := (k.fsrc b hb).elim (fun e => h.fsrc b e) fun e => e.elim (fun e => .inr (.inl (Nat.le_trans h.size e))) fun e => (h.lsrc b e).elim (fun e => .inr (.inl e)) fun e => .inr (.inr e)
  lsrc b hb := (k.lsrc b hb).elim (fun e => .inl (Nat.le_trans h.size e)) fun e => h.lsrc b e
theorem Step.keepF (h : Step F ρ H w F' ρ' H' w') (E : Env F ρ H w) : ∀ b, F b → w'.heap[b]? = w.heap[b]? := fun b hb => h.unch b (E.fb b hb) (E.notF hb)
theorem Step.ra (h : Step F ρ H w F' ρ' H' w') (E : Env F ρ H w) (k : Keep ρ ρ') {x : AV} {v : Value} (hx : RA w F ρ x v) : RA w' F' ρ' x v := hx.mono (h.keepF E) h.fsub k
theorem Step.ras (h : Step F ρ H w F' ρ' H' w') (E : Env F ρ H w) (k : Keep ρ ρ') {x : List AV} {v : List Value} (hx : RAs w F ρ x v) : RAs w' F' ρ' x v := hx.mono (h.keepF E) h.fsub k
end
/-- What a list of objects is as a heap. -/
def hp (l : List AObj) : Hp := fun i => l[i]?
end Go.Proofs.Ytgidaifoiljgoaa
