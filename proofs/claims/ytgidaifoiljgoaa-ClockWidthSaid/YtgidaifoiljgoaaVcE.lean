/- Operations on memory. No program is named here. -/
import Derived.Test.YtgidaifoiljgoaaVcD
namespace Go.Proofs.Ytgidaifoiljgoaa
set_option linter.unusedSimpArgs false
set_option linter.unusedVariables false
open Go.RowKit
section
variable {P : Program} {w w' : World} {F F' : Nat → Prop} {ρ ρ' : Nat → Option Value} {H : Hp} {L : List AObj} {ty : TypeId} {n : Nat}
/-! ### a new variable -/
def CRep (w : World) (F : Nat → Prop) (ρ : Nat → Option Value) (o : AObj) (vs : List Value) : Prop :=
  match o with
  | .cells cs => RAs w F ρ cs vs ∧ ∀ v ∈ vs, v.oneCell' = true
  | .row xs => RDs w F xs vs
  | _ => False
theorem grown_alloc (w : World) (o : Obj) (row : Option Nat) : w.grownBy (w.alloc o) row := World.grownBy_alloc w o row
theorem CRep.put {o : AObj} {vs : Array Value} {t : TypeId} (E : Env F ρ H w) (hn : H n = none) (h : CRep w F ρ o vs.toList) :
    Post F ρ H w (updF H n (some o)) (.ptr n 0) (.pointer (some ⟨w.heap.size, 0, none⟩)) (w.alloc (.cells vs t)) := by
  have hk := keep_upd (x := (.pointer (some ⟨w.heap.size, 0, none⟩) : Value)) (E.abs n hn)
  have hm : ∀ b, F b → (w.alloc (.cells vs t)).heap[b]? = w.heap[b]? := fun b hb => Below.heap_alloc w _ b (E.fb b hb)
  have hr : ORep (w.alloc (.cells vs t)) F (updF ρ n (some (.pointer (some ⟨w.heap.size, 0, none⟩)))) (.pointer (some ⟨w.heap.size, 0, none⟩)) o := by
    cases o with
    | cells cs => exact ⟨_, t, vs, rfl, Blk.new w t vs, h.1.mono hm (fun _ h => h) hk, h.2⟩
    | row xs => exact ⟨_, t, vs, rfl, Blk.new w t vs, RDs.mono hm (fun _ h => h) h⟩
    | dead => exact h.elim
    | sl s r => exact h.elim
    | obj p => exact h.elim
  obtain ⟨s, k, e⟩ := E.new hn (grown_alloc w _ none) (h := .pointer (some ⟨w.heap.size, 0, none⟩)) (fun b hb => by simp [blkOf] at hb; subst hb; simp) hr
  exact ⟨F, _, s, k, e, .ptr (updF_same _ _ _)⟩
theorem none0 {e : Eff} {o : AObj} (he : e.news = [o]) (h : ∀ k, k < e.news.length → H (n + k) = none) : H n = none := by simpa using h 0 (by rw [he]; simp)
def oneV (u : Value) (p : Prop) : Prop := match u with | .agg _ => False | .tuple _ => False | _ => p
theorem oneV_out {u : Value} {p : Prop} (h : oneV u p) : u.oneCell' = true ∧ u.cells = #[u] ∧ p := by
  cases u <;> first | exact h.elim | exact ⟨rfl, rfl, h⟩
def mapDK : List D → (List AV → Prop) → Prop
  | [], k => k []
  | x :: r, k => mapDK r fun l => k (.d x :: l)
theorem mapDK_out : ∀ {xs : List D} {k : List AV → Prop}, mapDK xs k → k (xs.map .d)
  | [], _, h => h
  | _ :: r, _, h => mapDK_out (xs := r) h
def lenK {α : Type} : List α → Nat → Prop → Prop
  | [], 0, p => p
  | _ :: r, n + 1, p => lenK r n p
  | _, _, _ => False
theorem lenK_out {α : Type} {p : Prop} : ∀ {xs : List α} {n : Nat}, lenK xs n p → xs.length = n ∧ p
  | [], 0, h => ⟨rfl, h⟩
  | _ :: r, n + 1, h => by have := lenK_out (xs := r) (n := n) h; exact ⟨by simp [this.1], this.2⟩
  | [], _ + 1, h => h.elim
  | _ :: _, 0, h => h.elim
/-- The cells of a value, as they are put into memory. -/
def partsK (size : Nat) (x : AV) (k : List AV → Prop) : Prop :=
  match x with
  | .d (.v u) => oneV u (k [.d (.v u)])
  | .d (.agg ds) => takeK ds size fun l => lenK ds size (mapDK l k)
  | .d (.sl s r) => k [.d (.sl s r)]
  | .agg xs => k xs
  | .ptr i o => k [.ptr i o]
  | .own i => k [.own i]
  | .ep i s a f => k [.ep i s a f]
  | .fp xs => k [.fp xs]
  | .fn f a b => k [.fn f a b]
  | .mp i => k [.mp i]
  | .tup _ => False
  | .any => False
theorem partsK_out {size : Nat} {x : AV} {k : List AV → Prop} (h : partsK size x k) : ∃ l, k l ∧ ∀ w F ρ v, RA w F ρ x v → RAs w F ρ l v.cells.toList ∧ ∀ u ∈ v.cells.toList, u.oneCell' = true := by
  have one : ∀ {y : AV}, k [y] → (∀ w F ρ v, RA w F ρ y v → v.cells = #[v] ∧ v.oneCell' = true) → ∃ l, k l ∧ ∀ w F ρ v, RA w F ρ y v → RAs w F ρ l v.cells.toList ∧ ∀ u ∈ v.cells.toList, u.oneCell' = true :=
    fun {y} hk hv => ⟨_, hk, fun w F ρ v hr => by
      obtain ⟨e, e1⟩ := hv w F ρ v hr
      rw [e]
      exact ⟨.cons hr .nil, fun u hu => by simp at hu; subst hu; exact e1⟩⟩
  unfold partsK at h
  split at h
  · obtain ⟨h1, h2, h3⟩ := oneV_out h
    exact one h3 fun w F ρ v hr => by have := hr.v_out; subst this; exact ⟨h2, h1⟩
  · rename_i ds
    obtain ⟨h1, hh⟩ := takeK_out h
    obtain ⟨h2, h3⟩ := lenK_out hh
    have hl := mapDK_out h3
    rw [List.take_of_length_le (by omega)] at hl
    refine ⟨_, hl, fun w F ρ v hr => ?_⟩
    cases hr with | d hr => cases hr with | agg hr => exact ⟨RAs.ofD (by simpa [Value.cells] using hr), fun u hu => hr.one u (by simpa [Value.cells] using hu)⟩
  · exact one h fun w F ρ v hr => by cases hr with | d hr => cases hr; exact ⟨rfl, rfl⟩
  · refine ⟨_, h, fun w F ρ v hr => ?_⟩
    cases hr with | agg hr h1 => exact ⟨by simpa [Value.cells] using hr, fun u hu => h1 u (by simpa [Value.cells] using hu)⟩
  · exact one h fun w F ρ v hr => by cases hr; exact ⟨rfl, rfl⟩
  · exact one h fun w F ρ v hr => by cases hr; exact ⟨rfl, rfl⟩
  · exact one h fun w F ρ v hr => by cases hr; exact ⟨rfl, rfl⟩
  · exact one h fun w F ρ v hr => by cases hr; exact ⟨rfl, rfl⟩
  · exact one h fun w F ρ v hr => by cases hr; exact ⟨rfl, rfl⟩
  · exact one h fun w F ρ v hr => by cases hr; exact ⟨rfl, rfl⟩
  · exact h.elim
  · exact h.elim
def bigB (size : Nat) : Bool := Nat.blt 24 size
def objK (size : Nat) (x : AV) (k : AObj → Prop) : Prop :=
  match bigB size with
  | true => match x with
    | .d (.agg ds) => k (.row ds)
    | _ => False
  | false => partsK size x fun l => k (.cells l)
theorem objK_out {size : Nat} {x : AV} {k : AObj → Prop} (h : objK size x k) : ∃ o, k o ∧ ∀ w F ρ v, RA w F ρ x v → CRep w F ρ o v.cells.toList := by
  unfold objK at h
  split at h
  · split at h
    · refine ⟨_, h, fun w F ρ v hr => ?_⟩
      cases hr with | d hr => cases hr with | agg hr => show RDs w F _ _; simpa [Value.cells] using hr
    · exact h.elim
  · obtain ⟨l, h1, h2⟩ := partsK_out h
    exact ⟨_, h1, h2⟩
theorem does_box {x : AV} {o : AObj} (xo : Operand) (t : TypeId) (h : ∀ w F ρ v, RA w F ρ x v → CRep w F ρ o v.cells.toList) : Does P (.box t xo) ty L n [x] ⟨[], [], [o]⟩ (.ptr n 0) := by
  intro op H F ρ w ev ho ht E _ hn hx
  obtain ⟨v, e, hv⟩ := hx.one_out
  simp [Op.operands] at e
  have hrun : (execOp ev op).run P w = .ok (.value (.pointer (some ⟨w.heap.size, 0, none⟩))) (w.alloc (.cells v.cells t)) := by
    simp [execOp, ho, e, Instr.box, newVar, newRow]
  rw [hrun]
  exact CRep.put E (by simpa using hn 0 (by simp)) (h w F ρ v hv)
theorem dv_rep {vs : List Value} (h : ∀ v ∈ vs, v.oneCell' = true) : RDs w F (vs.map .v) vs := by
  induction vs with
  | nil => exact .nil
  | cons v vs ih => exact .cons (.v v) (h v (List.mem_cons_self ..)) (ih fun u hu => h u (List.mem_cons_of_mem _ hu))
def mapVK : List Value → (List AV → Prop) → Prop
  | [], k => k []
  | x :: r, k => mapVK r fun l => k (.d (.v x) :: l)
theorem mapVK_out : ∀ {l : List Value} {k : List AV → Prop}, mapVK l k → k (l.map fun v => .d (.v v))
  | [], _, h => h
  | _ :: r, _, h => mapVK_out (l := r) h
def zeroK (ti : TI) (k : AObj → Prop) : Prop :=
  match ti.kind with
  | .non => False
  | _ => match bigB ti.size with
    | true => k (.row (ti.zero.map .v))
    | false => mapVK ti.zero fun m => k (.cells m)
theorem zeroK_out {t : TypeId} {k : AObj → Prop} (h : zeroK (tiOf P t) k) : ∃ o z i, k o ∧ P.info? t = some i ∧ i.zero = some z ∧ ∀ w F ρ, CRep w F ρ o z.cells.toList := by
  have hk : (tiOf P t).kind ≠ .non := by intro e; unfold zeroK at h; rw [e] at h; exact h.elim
  obtain ⟨i, d, z, hT, he⟩ := tiOf_known hk
  have hz : (tiOf P t).zero = z.cells.toList := by rw [he]; cases d <;> rfl
  unfold zeroK at h
  rw [hz] at h
  refine (?_ : ∃ o, k o ∧ ∀ w F ρ, CRep w F ρ o z.cells.toList).elim fun o h => ⟨o, z, i, h.1, hT.info, hT.zero, h.2⟩
  split at h
  · exact absurd (by assumption) hk
  · split at h
    · exact ⟨_, h, fun w F ρ => dv_rep hT.ones⟩
    · refine ⟨_, mapVK_out h, fun w F ρ => (⟨?_, hT.ones⟩ : RAs w F ρ _ _ ∧ _)⟩
      have := RAs.ofD (ρ := ρ) (dv_rep (w := w) (F := F) hT.ones)
      rw [List.map_map] at this
      exact this
theorem does_alloc {o : AObj} {t : TypeId} {z : Value} {i : TypeInfo} (hi : P.info? t = some i) (hz : i.zero = some z) (h : ∀ w F ρ, CRep w F ρ o z.cells.toList) : Does P (.alloc t) ty L n [] ⟨[], [], [o]⟩ (.ptr n 0) := by
  intro op H F ρ w ev ho ht E _ hn hx
  have hrun : (execOp ev op).run P w = .ok (.value (.pointer (some ⟨w.heap.size, 0, none⟩))) (w.alloc (.cells z.cells t)) := by
    simp [execOp, ho, Instr.alloc, newVar, newRow, zeroValue, typeInfo, hi, hz]
  rw [hrun]
  exact CRep.put E (by simpa using hn 0 (by simp)) (h w F ρ)
end
end Go.Proofs.Ytgidaifoiljgoaa
