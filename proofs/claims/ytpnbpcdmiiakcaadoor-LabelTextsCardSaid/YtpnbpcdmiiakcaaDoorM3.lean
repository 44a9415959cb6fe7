/- Parts Flow, VcL, VcIn, VcM, VcN of the proof, put together. -/
import Derived.Test.YtpnbpcdmiiakcaaDoorM2
import Derived.Orders
import Derived.OrdersHeld
import Derived.OrdersIn
import Derived.TacticsIn
import Derived.RangeFuncLeaves
/- A region that draws its order, by its flow of values: one obligation for each operation, whatever the order. No program is named here. -/
namespace Go.Proofs.YtpnbpcdmiiakcaaDoor
set_option linter.unusedSimpArgs false
open Go.RowKit
set_option linter.unusedVariables false
/-- What a region must be for its law: operands and guards come of operations that are waited for; each slot is written once; no operation waits for a later one. -/
def flowOk (ops : Array Oper) : Bool :=
  (List.range ops.size).all fun i => match ops[i]? with
    | none => true
    | some o => (match o.op with | .select .. => false | _ => true) && (o.after.all fun e => !Region.binds .any e || decide (e.on < i)) &&
      (match o.guard with | none => true | some (g, _) => o.after.any fun e => e.on == g && Region.binds .any e) &&
      (List.range ops.size).all fun j => match ops[j]? with
        | none => true
        | some p => match p.dst with
          | none => true
          | some k => (i == j || o.dst != some k) && (!(o.op.operands.any fun x => match x with | .tmp u => u == k | _ => false) || (if j < i then o.after.any fun e => e.on == j && Region.binds .any e else i == j || p.after.any fun e => e.on == i && Region.binds .any e))
structure FlowAt (ops : Array Oper) (a0 aF a : Act) (l : Nat → Bool) : Prop where
  defers : a.defers = a0.defers
  size : a.tmps.size = a0.tmps.size
  old : ∀ k : Nat, (∀ (j : Nat) (o : Oper), ops[j]? = some o → o.dst = some k → l j = false) → a.tmps[k]? = a0.tmps[k]?
  new : ∀ (j : Nat) (o : Oper) (k : Nat), ops[j]? = some o → o.dst = some k → l j = true → a.tmps[k]? = aF.tmps[k]?
def FrameOf (ops : Array Oper) (a0 aF : Act) : Prop := aF.defers = a0.defers ∧ aF.tmps.size = a0.tmps.size ∧ ∀ k : Nat, (∀ (j : Nat) (o : Oper), ops[j]? = some o → o.dst ≠ some k) → aF.tmps[k]? = a0.tmps[k]?
def updL (l : Nat → Bool) (i : Nat) : Nat → Bool := fun j => if j = i then true else l j
def SameL {Γ : Type} (ops : Array Oper) (F : Γ → Act) (l : Nat → Bool) (γ γ' : Γ) : Prop := ∀ (j : Nat) (p : Oper) (k : Nat), ops[j]? = some p → p.dst = some k → l j = true → (F γ).tmps[k]? = (F γ').tmps[k]?
theorem SameL.refl {Γ : Type} (ops : Array Oper) (F : Γ → Act) (l : Nat → Bool) (γ : Γ) : SameL ops F l γ γ := fun _ _ _ _ _ _ => rfl
/-- The operands of operation i, as it is carried out: what an earlier operation writes has been written, what a later one writes has not. -/
def evalAt (ops : Array Oper) (aF a0 : Act) (i : Nat) : Operand → Value
  | .tmp k => if ((List.range i).any fun j => match ops[j]? with | some p => p.dst == some k | none => false) = true then aF.eval (.tmp k) else a0.eval (.tmp k)
  | x => a0.eval x
def FlowStep (P : Program) {Γ : Type} (ops : Array Oper) (F : Γ → Act) (a0 : Act) (G : (Nat → Bool) → Γ → World → Prop) (i : Nat) (o : Oper) (l : Nat → Bool) (γ : Γ) (w : World) : Prop :=
  if Region.wanted o (yielded ops (F γ).tmps) = true then
    ∀ K : Act → World → Prop, (∀ a' w' γ', a'.defers = (F γ).defers → SameL ops F l γ γ' → (∀ d, o.dst = some d → a'.tmps[d]? = (F γ').tmps[d]?) → G (updL l i) γ' w' → K a' w') → o.upon P (F γ) K (fun _ _ _ => False) ((execOp (evalAt ops (F γ) a0 i) o).run P w)
  else (∀ d, o.dst = some d → (F γ).tmps[d]? = some undef) ∧ G (updL l i) γ w
section
variable {P : Program}
theorem upon_transfer {o : Oper} {a b : Act} {K K' : Act → World → Prop} {Q : Exit → Act → World → Prop} (h : ∀ v w', K' (b.put o.dst v) w' → K (a.put o.dst v) w')
    (hd : ∀ d v w', ¬ K' (Act.put { b with defers := d :: b.defers } o.dst v) w') (r : Result Next) (hr : o.upon P b K' (fun _ _ _ => False) r) : o.upon P a K Q r := by
  cases r with
  | ok n w' =>
    cases n with
    | value v => exact h _ _ hr
    | skip => exact h _ _ hr
    | defer d => exact absurd hr (hd _ _ _)
    | enter f args =>
      refine Calls.mono hr fun e w'' he => ?_
      cases e with
      | returned v => exact h _ _ he
      | panicked c => exact he.elim
      | outgrown => obtain ⟨_, _, h⟩ := he; exact h.elim
    | row s args => exact Rows.mono hr fun v w'' he => h _ _ he
    | _ => exact hr.elim
  | halt x w' => cases x <;> exact hr.elim
variable {ops : Array Oper}
theorem flowOk_at (hok : flowOk ops = true) {i : Nat} {o : Oper} (hi : ops[i]? = some o) :
    (∀ cs b, o.op ≠ .select cs b) ∧ (∀ e ∈ o.after, Region.binds .any e = true → e.on < i) ∧ (∀ g b, o.guard = some (g, b) → ∃ e ∈ o.after, e.on = g ∧ Region.binds .any e = true) ∧
    ∀ (j : Nat) (p : Oper) (k : Nat), ops[j]? = some p → p.dst = some k → (o.dst = some k → i = j) ∧ (∀ x ∈ o.op.operands, x = .tmp k → (j < i → ∃ e ∈ o.after, e.on = j ∧ Region.binds .any e = true) ∧ (i < j → ∃ e ∈ p.after, e.on = i ∧ Region.binds .any e = true)) := by
  have hlt := (Array.getElem?_eq_some_iff.1 hi).1
  have h := List.all_eq_true.1 hok i (List.mem_range.2 hlt)
  simp only [hi] at h
  obtain ⟨h, h4⟩ := Bool.and_eq_true_iff.1 h
  obtain ⟨h, h3⟩ := Bool.and_eq_true_iff.1 h
  obtain ⟨h1, h2⟩ := Bool.and_eq_true_iff.1 h
  clear h
  refine ⟨fun cs b e => (by rw [e] at h1; cases h1), fun e he hb => ?_, fun g b hg => ?_, fun j p k hj hk => ?_⟩
  · have := Array.all_eq_true_iff_forall_mem.1 h2 e he
    rw [hb] at this
    simpa using this
  · rw [hg] at h3
    obtain ⟨e, he, hb⟩ := Array.any_eq_true'.1 h3
    simp only [Bool.and_eq_true, beq_iff_eq] at hb
    exact ⟨e, he, hb.1, hb.2⟩
  · have := List.all_eq_true.1 h4 j (List.mem_range.2 (Array.getElem?_eq_some_iff.1 hj).1)
    simp only [hj, hk, Bool.and_eq_true, Bool.or_eq_true, beq_iff_eq, bne_iff_ne, ne_eq, Bool.not_eq_true'] at this
    refine ⟨fun h => this.1.resolve_right (fun hn => hn h), fun x hx ex => ?_⟩
    rcases this.2 with h5 | h5
    · have := (Array.any_eq_false'.1 h5) x hx
      subst ex
      simp at this
    · refine ⟨fun hji => ?_, fun hij => ?_⟩
      · rw [if_pos hji] at h5
        obtain ⟨e, he, hb⟩ := Array.any_eq_true'.1 h5
        simp only [Bool.and_eq_true, beq_iff_eq] at hb
        exact ⟨e, he, hb.1, hb.2⟩
      · rw [if_neg (by omega)] at h5
        simp only [Bool.or_eq_true, beq_iff_eq] at h5
        rcases h5 with h5 | h5
        · omega
        · obtain ⟨e, he, hb⟩ := Array.any_eq_true'.1 h5
          simp only [Bool.and_eq_true, beq_iff_eq] at hb
          exact ⟨e, he, hb.1, hb.2⟩
theorem Act.eval_getElem (a : Act) (k : Nat) : a.eval (.tmp k) = a.tmps[k]?.getD undef := by simp [Act.eval]
theorem FlowAt.eval {a0 aF a : Act} {l : Nat → Bool} (hok : flowOk ops = true) (hF : FrameOf ops a0 aF) (h : FlowAt ops a0 aF a l) {i : Nat} {o : Oper} (hi : ops[i]? = some o) (hli : l i = false)
    (hw : ∀ e ∈ o.after, Region.binds .any e = true → l e.on = true) (hcl : ∀ (j : Nat) (p : Oper), ops[j]? = some p → l j = true → ∀ e ∈ p.after, Region.binds .any e = true → l e.on = true) : ∀ x ∈ o.op.operands, a.eval x = evalAt ops aF a0 i x := by
  intro x hx
  cases x with
  | tmp k =>
    simp only [evalAt]
    by_cases hk : ∃ (j : Nat) (p : Oper), ops[j]? = some p ∧ p.dst = some k
    · obtain ⟨j, p, hj, hp⟩ := hk
      have hops := ((flowOk_at hok hi).2.2.2 j p k hj hp).2 _ hx rfl
      by_cases hji : j < i
      · rw [if_pos (by rw [List.any_eq_true]; exact ⟨j, List.mem_range.2 hji, by simp [hj, hp]⟩)]
        obtain ⟨e, he, hej, hb⟩ := hops.1 hji
        rw [Act.eval_getElem, Act.eval_getElem, h.new j p k hj hp (by rw [← hej]; exact hw e he hb)]
      · have huniq : ∀ (j' : Nat) (p' : Oper), ops[j']? = some p' → p'.dst = some k → j' = j := fun j' p' hj' hp' => ((flowOk_at hok hj').2.2.2 j p k hj hp).1 hp'
        have hlj : l j = false := by
          cases hlj : l j with
          | false => rfl
          | true =>
            exfalso
            by_cases hij : i < j
            · obtain ⟨e, he, hei, hb⟩ := hops.2 hij
              have := hcl j p hj hlj e he hb
              rw [hei, hli] at this
              cases this
            · obtain rfl : i = j := by omega
              rw [hli] at hlj
              cases hlj
        rw [if_neg, Act.eval_getElem, Act.eval_getElem, h.old k (fun j' p' hj' hp' => by rw [huniq j' p' hj' hp']; exact hlj)]
        rw [List.any_eq_true]
        rintro ⟨j', hj', hm⟩
        cases hjo : ops[j']? with
        | none => rw [hjo] at hm; cases hm
        | some p' =>
          rw [hjo] at hm
          have := huniq j' p' hjo (by simpa using hm)
          have := List.mem_range.1 hj'
          omega
    · have hk' : ∀ (j : Nat) (o : Oper), ops[j]? = some o → o.dst ≠ some k := fun j p hj hp => hk ⟨j, p, hj, hp⟩
      rw [if_neg, Act.eval_getElem, Act.eval_getElem, h.old k (fun j p hj hp => absurd hp (hk' j p hj))]
      rw [List.any_eq_true]
      rintro ⟨j', hj', hm⟩
      cases hjo : ops[j']? with
      | none => rw [hjo] at hm; cases hm
      | some p' => rw [hjo] at hm; exact hk' j' p' hjo (by simpa using hm)
  | const v => rfl
  | global g => rfl
  | func f => rfl
theorem FlowAt.wanted {a0 aF a : Act} {l : Nat → Bool} (hok : flowOk ops = true) (hF : FrameOf ops a0 aF) (h : FlowAt ops a0 aF a l) {i : Nat} {o : Oper} (hi : ops[i]? = some o)
    (hw : ∀ e ∈ o.after, Region.binds .any e = true → l e.on = true) : Region.wanted o (yielded ops a.tmps) = Region.wanted o (yielded ops aF.tmps) := by
  unfold Region.wanted
  cases hg : o.guard with
  | none => rfl
  | some gb =>
    obtain ⟨g, b⟩ := gb
    obtain ⟨e, he, hej, hb⟩ := (flowOk_at hok hi).2.2.1 g b hg
    have hl : l g = true := by rw [← hej]; exact hw e he hb
    have : yielded ops a.tmps g = yielded ops aF.tmps g := by
      unfold yielded
      cases hp : ops[g]? with
      | none => rfl
      | some p =>
        cases hd : p.dst with
        | none => simp [hd]
        | some k => simp [hd, h.new g p k hp hd hl]
    simp only [this]
theorem put_get (a : Act) (d : Option Tmp) (v : Value) (k : Nat) : (a.put d v).tmps[k]? = if d = some k ∧ k < a.tmps.size then some v else a.tmps[k]? := by
  cases d with
  | none => simp [Act.put]
  | some d =>
    simp only [Act.put, Array.getElem?_setIfInBounds, Option.some.injEq]
    by_cases h : d = k
    · subst h
      by_cases h2 : d < a.tmps.size
      · simp [h2]
      · simp [h2]
    · simp [h]
theorem put_size (a : Act) (d : Option Tmp) (v : Value) : (a.put d v).tmps.size = a.tmps.size := by cases d <;> simp [Act.put]
theorem put_defs (a : Act) (d : Option Tmp) (v : Value) : (a.put d v).defers = a.defers := by cases d <;> simp [Act.put]
theorem FlowAt.put {a0 aF aF' a : Act} {l : Nat → Bool} (hok : flowOk ops = true) (h : FlowAt ops a0 aF a l) {i : Nat} {o : Oper} (hi : ops[i]? = some o) (v : Value)
    (hsz : aF.tmps.size = a0.tmps.size) (same : ∀ (j : Nat) (p : Oper) (k : Nat), ops[j]? = some p → p.dst = some k → l j = true → aF.tmps[k]? = aF'.tmps[k]?)
    (hv : ∀ d, o.dst = some d → (aF.put o.dst v).tmps[d]? = aF'.tmps[d]?) : FlowAt ops a0 aF' (a.put o.dst v) (updL l i) := by
  refine ⟨by rw [put_defs]; exact h.defers, by rw [put_size]; exact h.size, fun k hk => ?_, fun j p k hj hp hl => ?_⟩
  · rw [put_get, if_neg, h.old k (fun j p hj hp => ?_)]
    · have := hk j p hj hp
      unfold updL at this
      split at this
      · cases this
      · exact this
    · rintro ⟨hd, _⟩
      have := hk i o hi hd
      simp [updL] at this
  · by_cases hji : j = i
    · subst hji
      rw [hi] at hj
      injection hj with hj
      subst hj
      have := hv k hp
      rw [put_get] at this ⊢
      rw [hp] at this ⊢
      simp only [true_and] at this ⊢
      rw [h.size, ← hsz]
      by_cases hlt : k < aF.tmps.size
      · rw [if_pos hlt] at this ⊢; exact this
      · rw [if_neg hlt] at this ⊢
        have hs := h.size
        rw [← this, Array.getElem?_eq_none (by omega), Array.getElem?_eq_none (by omega)]
    · have hl' : l j = true := by simpa [updL, hji] using hl
      have hne : o.dst ≠ some k := fun hd => hji ((((flowOk_at hok hi).2.2.2 j p k hj hp).1 hd).symm)
      rw [put_get, if_neg (fun c => hne c.1), h.new j p k hj hp hl']
      exact same j p k hj hp hl'
theorem FlowAt.end_ {a0 aF a : Act} {l : Nat → Bool} (hF : FrameOf ops a0 aF) (h : FlowAt ops a0 aF a l) (hl : ∀ i, i < ops.size → l i = true) : a = aF := by
  have : a.tmps = aF.tmps := by
    apply Array.ext_getElem?
    intro k
    by_cases hk : ∃ (j : Nat) (p : Oper), ops[j]? = some p ∧ p.dst = some k
    · obtain ⟨j, p, hj, hp⟩ := hk
      exact h.new j p k hj hp (hl j (Array.getElem?_eq_some_iff.1 hj).1)
    · have hk' : ∀ (j : Nat) (o : Oper), ops[j]? = some o → o.dst ≠ some k := fun j p hj hp => hk ⟨j, p, hj, hp⟩
      rw [h.old k (fun j p hj hp => absurd hp (hk' j p hj)), hF.2.2 k hk']
  obtain ⟨t, d⟩ := a
  obtain ⟨t', d'⟩ := aF
  have h1 := h.defers
  have h2 := hF.1
  simp only at this h1 h2
  rw [this, h1, h2]
theorem countP_but (p : Nat → Bool) (i : Nat) (hp : p i = true) : ∀ (l : List Nat), l.Nodup → i ∈ l → l.countP (fun j => p j && j != i) + 1 = l.countP p
  | [], _, h => by simp at h
  | x :: r, hn, h => by
    rw [List.nodup_cons] at hn
    by_cases hx : x = i
    · subst hx
      have : r.countP (fun j => p j && j != x) = r.countP p := List.countP_congr fun j hj => by
        have : j ≠ x := fun e => hn.1 (e ▸ hj)
        simp [this]
      simp [this, hp]
    · have := countP_but p i hp r hn.2 (by rcases List.mem_cons.1 h with h | h; exact absurd h.symm hx; exact h)
      simp only [List.countP_cons, hx, bne_iff_ne, ne_eq, not_false_eq_true, and_true, Bool.and_eq_true]
      omega
def stepsLeft (ops : Array Oper) (listed : Array Bool) : Nat := (List.range ops.size).countP fun j => !listed.getD j false
theorem flow_main {a0 : Act} {Q : Exit → Act → World → Prop} (hok : flowOk ops = true) {Γ : Type} (F : Γ → Act) (G : (Nat → Bool) → Γ → World → Prop)
    (hF : ∀ γ, FrameOf ops a0 (F γ))
    (hstep : ∀ (i : Nat) (o : Oper), ops[i]? = some o → ∀ (l : Nat → Bool) (γ : Γ) (w : World), G l γ w → l i = false → (∀ e ∈ o.after, Region.binds .any e = true → l e.on = true) →
      (∀ (j : Nat) (p : Oper), ops[j]? = some p → l j = true → ∀ e ∈ p.after, Region.binds .any e = true → l e.on = true) → FlowStep P ops F a0 G i o l γ w)
    (hend : ∀ (l : Nat → Bool) (γ : Γ) (w : World), (∀ i, i < ops.size → l i = true) → G l γ w → Q .normal (F γ) w) :
    ∀ (fuel : Nat) (listed : Array Bool) (a : Act) (w : World) (γ : Γ), listed.size = ops.size → stepsLeft ops listed = fuel →
      (∀ (j : Nat) (p : Oper), ops[j]? = some p → listed.getD j false = true → ∀ e ∈ p.after, Region.binds .any e = true → listed.getD e.on false = true) →
      FlowAt ops a0 (F γ) a (fun j => listed.getD j false) → G (fun j => listed.getD j false) γ w → wpAny P .any ops Q fuel listed a w := by
  have fin : ∀ (listed : Array Bool) (a : Act) (w : World) (γ : Γ), Region.ready .any ops listed = [] → listed.size = ops.size → FlowAt ops a0 (F γ) a (fun j => listed.getD j false) → G (fun j => listed.getD j false) γ w → Q .normal a w := by
    intro listed a w γ hr hsz hfl hG
    have hall : ∀ n i, i < n → i < ops.size → listed.getD i false = true := by
      intro n
      induction n with
      | zero => intro i h; omega
      | succ n ih =>
        intro i hi hs
        by_cases hin : i < n
        · exact ih i hin hs
        · obtain rfl : i = n := by omega
          cases hl : listed.getD i false with
          | true => rfl
          | false =>
            exfalso
            have hm : i ∈ Region.ready .any ops listed := by
              rw [mem_ready]
              refine ⟨by rw [← hl]; simp [Array.getElem?_eq_getElem (show i < listed.size by omega)], ops[i], Array.getElem?_eq_getElem hs, fun e he hb => ?_⟩
              have := (flowOk_at hok (Array.getElem?_eq_getElem hs)).2.1 e he hb
              exact ih e.on this (by omega)
            rw [hr] at hm
            simp at hm
    have := hfl.end_ (hF γ) (fun i hi => hall (i + 1) i (by omega) hi)
    rw [this]
    exact hend _ γ w (fun i hi => hall (i + 1) i (by omega) hi) hG
  intro fuel
  induction fuel with
  | zero =>
    intro listed a w γ hsz hleft hcl hfl hG
    have hr : Region.ready .any ops listed = [] := by
      rw [List.eq_nil_iff_forall_not_mem]
      intro i hi
      rw [mem_ready] at hi
      obtain ⟨h1, o, ho, _⟩ := hi
      have hlt := (Array.getElem?_eq_some_iff.1 ho).1
      unfold stepsLeft at hleft
      rw [List.countP_eq_zero] at hleft
      have := hleft i (List.mem_range.2 hlt)
      have h2 : listed.getD i false = listed.getD i true := by simp [Array.getElem?_eq_getElem (show i < listed.size by omega)]
      rw [h2, h1] at this
      simp at this
    exact ⟨hr, fin listed a w γ hr hsz hfl hG⟩
  | succ fuel ih =>
    intro listed a w γ hsz hleft hcl hfl hG
    refine ⟨fun hr => fin listed a w γ hr hsz hfl hG, fun i hi => ?_⟩
    rw [mem_ready] at hi
    obtain ⟨h1, o, ho, hw⟩ := hi
    have hlt := (Array.getElem?_eq_some_iff.1 ho).1
    have hli : listed.getD i false = false := by rw [← h1]; simp [Array.getElem?_eq_getElem (show i < listed.size by omega)]
    have hset : (fun j => (listed.setIfInBounds i true).getD j false) = updL (fun j => listed.getD j false) i := by
      funext j
      unfold updL
      by_cases hj : j = i
      · subst hj; simp [show j < listed.size by omega]
      · rw [if_neg hj, getD_set_ne false (fun e => hj e.symm)]
    have hleft' : stepsLeft ops (listed.setIfInBounds i true) = fuel := by
      have h3 := countP_but (fun j => !listed.getD j false) i (by rw [hli]; rfl) (List.range ops.size) List.nodup_range (List.mem_range.2 hlt)
      unfold stepsLeft at hleft ⊢
      have : (fun j => !(listed.setIfInBounds i true).getD j false) = fun j => (!listed.getD j false) && j != i := by
        funext j
        have := congrFun hset j
        simp only [updL] at this
        rw [this]
        by_cases hj : j = i <;> simp [hj]
      rw [this]
      omega
    have hcl' : ∀ (j : Nat) (p : Oper), ops[j]? = some p → (listed.setIfInBounds i true).getD j false = true → ∀ e ∈ p.after, Region.binds .any e = true → (listed.setIfInBounds i true).getD e.on false = true := by
      intro j p hj hl e he hb
      have h4 := congrFun hset j
      have h5 := congrFun hset e.on
      simp only [updL] at h4 h5
      rw [h5]
      split
      · rfl
      · rw [h4] at hl
        split at hl
        · rename_i hji
          subst hji
          rw [hj] at ho
          injection ho with ho
          subst ho
          exact hw e he hb
        · exact hcl j p hj hl e he hb
    have hs := hstep i o ho _ γ w hG hli hw hcl
    unfold wpOp
    simp only [ho]
    rw [hfl.wanted hok (hF γ) ho hw]
    unfold FlowStep at hs
    by_cases hwt : Region.wanted o (yielded ops (F γ).tmps) = true
    · rw [if_pos hwt] at hs ⊢
      left
      have he := execOp_congr o (flowOk_at hok ho).1 (hfl.eval hok (hF γ) ho hli hw hcl)
      unfold Oper.wp
      rw [he]
      refine upon_transfer (K' := fun a' w' => ∃ γ', a'.defers = (F γ).defers ∧ SameL ops F (fun j => listed.getD j false) γ γ' ∧ (∀ d, o.dst = some d → a'.tmps[d]? = (F γ').tmps[d]?) ∧ G (updL (fun j => listed.getD j false) i) γ' w') ?_ ?_ _ (hs _ fun a' w' γ' d1 d2 d3 d4 => ⟨γ', d1, d2, d3, d4⟩)
      · rintro v w' ⟨γ', d1, d2, d3, d4⟩
        refine ih _ _ w' γ' (by simpa using hsz) hleft' hcl' ?_ ?_
        · rw [hset]
          exact hfl.put hok ho v (hF γ).2.1 d2 d3
        · rw [hset]; exact d4
      · rintro d v w' ⟨γ', d1, _⟩
        rw [put_defs] at d1
        have := congrArg List.length d1
        simp at this
    · rw [if_neg hwt] at hs ⊢
      refine ih _ _ w γ (by simpa using hsz) hleft' hcl' ?_ ?_
      · rw [hset]
        refine hfl.put hok ho undef (hF γ).2.1 (fun _ _ _ _ _ _ => rfl) (fun d hd => ?_)
        rw [hs.1 d hd, put_get, if_pos ⟨hd, (Array.getElem?_eq_some_iff.1 (hs.1 d hd)).1⟩]
      · rw [hset]; exact hs.2
/-- **The law.** -/
theorem wpAny_flow {a0 : Act} {w : World} {Q : Exit → Act → World → Prop} (hok : flowOk ops = true) {Γ : Type} (F : Γ → Act) (G : (Nat → Bool) → Γ → World → Prop)
    (hF : ∀ γ, FrameOf ops a0 (F γ)) (γ0 : Γ) (h0 : G (fun _ => false) γ0 w.drew)
    (hstep : ∀ (i : Nat) (o : Oper), ops[i]? = some o → ∀ (l : Nat → Bool) (γ : Γ) (w : World), G l γ w → l i = false → (∀ e ∈ o.after, Region.binds .any e = true → l e.on = true) →
      (∀ (j : Nat) (p : Oper), ops[j]? = some p → l j = true → ∀ e ∈ p.after, Region.binds .any e = true → l e.on = true) → FlowStep P ops F a0 G i o l γ w)
    (hend : ∀ (l : Nat → Bool) (γ : Γ) (w : World), (∀ i, i < ops.size → l i = true) → G l γ w → Q .normal (F γ) w) : wpAny P .any ops Q ops.size (Array.replicate ops.size false) a0 w.drew := by
  have hl : (fun j => (Array.replicate ops.size false).getD j false) = fun _ : Nat => false := by
    funext j
    simp [Array.getElem?_replicate]
    split <;> rfl
  refine flow_main hok F G hF hstep hend ops.size _ a0 _ γ0 (by simp) ?_ ?_ ?_ ?_
  · unfold stepsLeft
    have : (fun j => !(Array.replicate ops.size false).getD j false) = fun _ => true := by
      funext j
      rw [congrFun hl j]; rfl
    rw [this]
    simp
  · intro j p hj h
    rw [congrFun hl j] at h
    cases h
  · rw [hl]
    exact ⟨rfl, rfl, fun k _ => rfl, fun j o k _ _ h => by cases h⟩
  · rw [hl]
    exact h0
/-! ### the frame behind the region, by the values of its operations -/
def putAll : List Oper → List Value → Act → Act
  | o :: os, v :: vs, a => putAll os vs (a.put o.dst v)
  | _, _, a => a
theorem putAll_defs : ∀ (os : List Oper) (vs : List Value) (a : Act), (putAll os vs a).defers = a.defers ∧ (putAll os vs a).tmps.size = a.tmps.size
  | [], _, a => ⟨rfl, rfl⟩
  | _ :: _, [], a => ⟨rfl, rfl⟩
  | o :: os, v :: vs, a => by
    have := putAll_defs os vs (a.put o.dst v)
    rw [put_defs, put_size] at this
    exact this
theorem putAll_far : ∀ (os : List Oper) (vs : List Value) (a : Act) (k : Nat), (∀ o ∈ os, o.dst ≠ some k) → (putAll os vs a).tmps[k]? = a.tmps[k]?
  | [], _, a, k, _ => rfl
  | _ :: _, [], a, k, _ => rfl
  | o :: os, v :: vs, a, k, h => by
    have := putAll_far os vs (a.put o.dst v) k (fun p hp => h p (by simp [hp]))
    rw [put_get, if_neg (fun c => h o (by simp) c.1)] at this
    exact this
theorem putAll_frame (ops : Array Oper) (vs : List Value) (a : Act) : FrameOf ops a (putAll ops.toList vs a) :=
  ⟨(putAll_defs _ _ _).1, (putAll_defs _ _ _).2, fun k hk => putAll_far _ _ _ _ fun o ho hd => by
    obtain ⟨j, hj, he⟩ := List.getElem_of_mem ho
    exact hk j o (by rw [← Array.getElem?_toList, List.getElem?_eq_getElem hj, he]) hd⟩
/-- What the region's operations have written to slot k. -/
def lookV : List Oper → List Value → Nat → Option Value
  | o :: os, v :: vs, k => match o.dst with
    | some d => if d = k then some v else lookV os vs k
    | none => lookV os vs k
  | _, _, _ => none
/-- The operands' values where all that they wait for has come. -/
def valOf (os : List Oper) (vs : List Value) (a0 : Act) : Operand → Value
  | .tmp k => match lookV os vs k with
    | some v => v
    | none => a0.eval (.tmp k)
  | .const v => v
  | .global g => .pointer (some ⟨g, 0, none⟩)
  | .func f => .func (.func f) #[] #[]
def dstsOk : List Oper → Nat → Bool
  | [], _ => true
  | o :: os, n => (match o.dst with | none => true | some d => decide (d < n) && os.all fun p => p.dst != some d) && dstsOk os n
theorem putAll_look : ∀ (os : List Oper) (vs : List Value) (a : Act) (k : Nat), dstsOk os a.tmps.size = true → (putAll os vs a).tmps[k]? = match lookV os vs k with | some v => some v | none => a.tmps[k]?
  | [], _, a, k, _ => rfl
  | _ :: _, [], a, k, _ => by simp [putAll, lookV]
  | o :: os, v :: vs, a, k, h => by
    simp only [dstsOk, Bool.and_eq_true] at h
    obtain ⟨h1, h2⟩ := h
    have ih := putAll_look os vs (a.put o.dst v) k (by rw [put_size]; exact h2)
    cases hd : o.dst with
    | none =>
      rw [hd] at ih
      simp only [putAll, lookV, hd]
      exact ih
    | some d =>
      rw [hd] at ih h1
      simp only [Bool.and_eq_true, decide_eq_true_eq] at h1
      simp only [putAll, lookV, hd]
      by_cases hk : d = k
      · subst hk
        rw [if_pos rfl, putAll_far os vs _ d (fun p hp => by have := List.all_eq_true.1 h1.2 p hp; simpa using this), put_get, if_pos ⟨rfl, h1.1⟩]
      · rw [if_neg hk, ih, put_get, if_neg (fun c => hk (by injection c.1))]
theorem lookV_at : ∀ (os : List Oper) (vs : List Value) (n i : Nat) (o : Oper) (d : Nat), dstsOk os n = true → os[i]? = some o → o.dst = some d → lookV os vs d = vs[i]?
  | [], _, _, i, o, d, _, h, _ => by simp at h
  | _ :: _, [], _, i, o, d, _, _, _ => by simp [lookV]
  | p :: os, v :: vs, n, 0, o, d, _, h, hd => by
    simp at h
    subst h
    simp [lookV, hd]
  | p :: os, v :: vs, n, i + 1, o, d, hk, h, hd => by
    simp only [dstsOk, Bool.and_eq_true] at hk
    simp only [List.getElem?_cons_succ] at h ⊢
    have ih := lookV_at os vs n i o d hk.2 h hd
    cases hp : p.dst with
    | none => simp only [lookV, hp]; exact ih
    | some e =>
      have h1 := hk.1
      rw [hp] at h1
      simp only [Bool.and_eq_true] at h1
      have := List.all_eq_true.1 h1.2 o (List.mem_of_getElem? h)
      rw [hd] at this
      have hne : ¬ e = d := fun c => by subst c; simp at this
      simp only [lookV, hp, if_neg hne]
      exact ih
def StepsAll (p : Nat → Oper → Prop) : Nat → List Oper → Prop
  | _, [] => True
  | n, o :: os => p n o ∧ StepsAll p (n + 1) os
theorem stepsAll_get {p : Nat → Oper → Prop} : ∀ (os : List Oper) (n : Nat), StepsAll p n os → ∀ (i : Nat) (o : Oper), os[i]? = some o → p (n + i) o
  | [], n, _, i, o, h => by simp at h
  | x :: os, n, hs, 0, o, h => by simp at h; subst h; exact hs.1
  | x :: os, n, hs, i + 1, o, h => by
    have := stepsAll_get os (n + 1) hs.2 i o (by simpa using h)
    rwa [show n + 1 + i = n + (i + 1) by omega] at this
/-- Is the operation carried out? by the values. -/
def wantedV (os : List Oper) (vs : List Value) (o : Oper) : Bool :=
  match o.guard with
  | none => true
  | some (j, want) => match vs[j]? with
    | some (.bool b) => b == want
    | _ => false
section
variable {Γ : Type} {vs : Γ → List Value} {a0 : Act} {G : (Nat → Bool) → Γ → World → Prop} {i : Nat} {o : Oper} {l : Nat → Bool} {γ : Γ} {w : World}
def SameV {Γ : Type} (vs : Γ → List Value) (l : Nat → Bool) (γ γ' : Γ) : Prop := ∀ j, l j = true → (vs γ)[j]? = (vs γ')[j]?
theorem SameV.refl (vs : Γ → List Value) (l : Nat → Bool) (γ : Γ) : SameV vs l γ γ := fun _ _ => rfl
theorem SameV.set {γ' : Γ} {i : Nat} (v : Value) (hl : l i = false) (h : vs γ' = (vs γ).set i v) : SameV vs l γ γ' := fun j hj => by
  rw [h, List.getElem?_set_ne (fun e => by subst e; rw [hl] at hj; cases hj)]
/-- What an operation owes, by the values. -/
def StepV (P : Program) (ops : Array Oper) {Γ : Type} (vs : Γ → List Value) (a0 : Act) (G : (Nat → Bool) → Γ → World → Prop) (i : Nat) (o : Oper) (l : Nat → Bool) (γ : Γ) (w : World) : Prop :=
  if wantedV ops.toList (vs γ) o = true then
    (∃ v w' γ', (execOp (valOf (ops.toList.take i) (vs γ) a0) o).run P w = .ok (.value v) w' ∧ SameV vs l γ γ' ∧ (o.dst = none ∨ (vs γ')[i]? = some v) ∧ G (updL l i) γ' w') ∨
    (∃ w' γ', (execOp (valOf (ops.toList.take i) (vs γ) a0) o).run P w = .ok .skip w' ∧ SameV vs l γ γ' ∧ (o.dst = none ∨ (vs γ')[i]? = some undef) ∧ G (updL l i) γ' w') ∨
    (∃ f args w0, (execOp (valOf (ops.toList.take i) (vs γ) a0) o).run P w = .ok (.enter f args) w0 ∧
      Calls P f args w0 fun e w' => ∃ v γ', e = .returned v ∧ SameV vs l γ γ' ∧ (o.dst = none ∨ (vs γ')[i]? = some v) ∧ G (updL l i) γ' w')
  else (o.dst = none ∨ (vs γ)[i]? = some undef) ∧ G (updL l i) γ w
/-- .. where all that it waits for has come, and all that those waited for. -/
def Owes (P : Program) (ops : Array Oper) {Γ : Type} (vs : Γ → List Value) (a0 : Act) (G : (Nat → Bool) → Γ → World → Prop) (i : Nat) (o : Oper) : Prop :=
  ∀ (l : Nat → Bool) (γ : Γ) (w : World), G l γ w → l i = false → (∀ e ∈ o.after, Region.binds .any e = true → l e.on = true) →
      (∀ (j : Nat) (p : Oper), ops[j]? = some p → l j = true → ∀ e ∈ p.after, Region.binds .any e = true → l e.on = true) → StepV P ops vs a0 G i o l γ w
end
/-- The region's guards name operations that write a slot. -/
def guardsOk (ops : Array Oper) : Bool := ops.all fun o => match o.guard with
  | none => true
  | some (j, _) => match ops[j]? with
    | some p => p.dst.isSome
    | none => false
theorem wantedV_eq {Γ : Type} {vs : Γ → List Value} {a0 : Act} (γ : Γ) (hd : dstsOk ops.toList a0.tmps.size = true) (hg : guardsOk ops = true) (hl : (vs γ).length = ops.size) {i : Nat} {o : Oper} (hi : ops[i]? = some o) :
    Region.wanted o (yielded ops (putAll ops.toList (vs γ) a0).tmps) = wantedV ops.toList (vs γ) o := by
  unfold Region.wanted wantedV
  cases hgd : o.guard with
  | none => rfl
  | some gb =>
    obtain ⟨j, b⟩ := gb
    have h := Array.all_eq_true_iff_forall_mem.1 hg o (Array.mem_of_getElem? hi)
    rw [hgd] at h
    simp only at h
    cases hj : ops[j]? with
    | none => simp [hj] at h
    | some p =>
      simp only [hj] at h
      obtain ⟨d, hd'⟩ := Option.isSome_iff_exists.1 h
      simp only [yielded, hj, Option.bind_some, hd', putAll_look _ _ _ _ hd]
      rw [lookV_at ops.toList (vs γ) a0.tmps.size j p d hd (by rw [Array.getElem?_toList]; exact hj) hd']
      have hlt := (Array.getElem?_eq_some_iff.1 hj).1
      rw [List.getElem?_eq_getElem (by omega)]
      simp only
      generalize (vs γ)[j] = u
      cases u <;> first | rfl | (simp; done)
theorem lookV_none : ∀ (os : List Oper) (vs : List Value) (k : Nat), (∀ o ∈ os, o.dst ≠ some k) → lookV os vs k = none
  | [], _, _, _ => rfl
  | _ :: _, [], _, _ => rfl
  | o :: os, v :: vs, k, h => by
    have ih := lookV_none os vs k (fun p hp => h p (by simp [hp]))
    cases hd : o.dst with
    | none => simp only [lookV, hd]; exact ih
    | some d =>
      have : ¬ d = k := fun e => h o (by simp) (by rw [hd, e])
      simp only [lookV, hd, if_neg this]
      exact ih
theorem dstsOk_take : ∀ (os : List Oper) (n i : Nat), dstsOk os n = true → dstsOk (os.take i) n = true
  | [], _, i, _ => by simp [dstsOk]
  | o :: os, n, 0, _ => by simp [dstsOk]
  | o :: os, n, i + 1, h => by
    simp only [dstsOk, Bool.and_eq_true, List.take_succ_cons] at h ⊢
    refine ⟨?_, dstsOk_take os n i h.2⟩
    cases hd : o.dst with
    | none => rfl
    | some d =>
      have h1 := h.1
      rw [hd] at h1
      simp only [Bool.and_eq_true] at h1 ⊢
      refine ⟨h1.1, ?_⟩
      rw [List.all_eq_true] at h1 ⊢
      exact fun p hp => h1.2 p (List.mem_of_mem_take hp)
theorem evalAt_eq {vs : List Value} {a0 : Act} (hl : vs.length = ops.size) (hd : dstsOk ops.toList a0.tmps.size = true) (i : Nat) : evalAt ops (putAll ops.toList vs a0) a0 i = valOf (ops.toList.take i) vs a0 := by
  funext x
  cases x with
  | tmp k =>
    simp only [evalAt, valOf]
    by_cases hk : ∃ (j : Nat) (p : Oper), j < i ∧ ops[j]? = some p ∧ p.dst = some k
    · obtain ⟨j, p, hji, hj, hp⟩ := hk
      rw [if_pos (by rw [List.any_eq_true]; exact ⟨j, List.mem_range.2 hji, by simp [hj, hp]⟩)]
      have hjl : ops.toList[j]? = some p := by rw [Array.getElem?_toList]; exact hj
      have hjt : (ops.toList.take i)[j]? = some p := by rw [List.getElem?_take, if_pos hji]; exact hjl
      have hlt := (Array.getElem?_eq_some_iff.1 hj).1
      rw [Act.eval_getElem, putAll_look _ _ _ _ hd, lookV_at ops.toList vs a0.tmps.size j p k hd hjl hp, lookV_at (ops.toList.take i) vs a0.tmps.size j p k (dstsOk_take _ _ _ hd) hjt hp, List.getElem?_eq_getElem (by omega)]
      rfl
    · have hk' : ∀ (j : Nat) (p : Oper), j < i → ops[j]? = some p → p.dst ≠ some k := fun j p hji hj hp => hk ⟨j, p, hji, hj, hp⟩
      rw [if_neg, lookV_none]
      · intro o ho hod
        obtain ⟨j, hj, he⟩ := List.getElem_of_mem ho
        rw [List.length_take] at hj
        rw [List.getElem_take] at he
        have hlt2 : j < ops.toList.length := by omega
        exact hk' j o (by omega) (by rw [← Array.getElem?_toList, List.getElem?_eq_getElem hlt2, he]) hod
      · rw [List.any_eq_true]
        rintro ⟨j, hj, hm⟩
        cases hjo : ops[j]? with
        | none => rw [hjo] at hm; cases hm
        | some p => rw [hjo] at hm; exact hk' j p (List.mem_range.1 hj) hjo (by simpa using hm)
  | _ => rfl
theorem stepV_flow {Γ : Type} {vs : Γ → List Value} {a0 : Act} {G : (Nat → Bool) → Γ → World → Prop} (hd : dstsOk ops.toList a0.tmps.size = true) (hg : guardsOk ops = true) (hlen : ∀ γ, (vs γ).length = ops.size) {i : Nat} {o : Oper} (hi : ops[i]? = some o) {l : Nat → Bool} {γ : Γ} {w : World}
    (h : StepV P ops vs a0 G i o l γ w) : FlowStep P ops (fun γ => putAll ops.toList (vs γ) a0) a0 G i o l γ w := by
  have slot : ∀ (γ : Γ) (j : Nat) (p : Oper) (k : Nat), ops[j]? = some p → p.dst = some k → (putAll ops.toList (vs γ) a0).tmps[k]? = (vs γ)[j]? := by
    intro γ j p k hj hp
    rw [putAll_look _ _ _ _ hd, lookV_at ops.toList (vs γ) a0.tmps.size j p k hd (by rw [Array.getElem?_toList]; exact hj) hp]
    have hlt := (Array.getElem?_eq_some_iff.1 hj).1
    rw [List.getElem?_eq_getElem (by rw [hlen]; exact hlt)]
  have same : ∀ γ', SameV vs l γ γ' → SameL ops (fun γ => putAll ops.toList (vs γ) a0) l γ γ' := by
    intro γ' hS j p k hj hp hl
    show (putAll ops.toList (vs γ) a0).tmps[k]? = (putAll ops.toList (vs γ') a0).tmps[k]?
    rw [slot γ j p k hj hp, slot γ' j p k hj hp, hS j hl]
  unfold FlowStep
  unfold StepV at h
  rw [wantedV_eq γ hd hg (hlen γ) hi]
  by_cases hw : wantedV ops.toList (vs γ) o = true
  · rw [if_pos hw] at h ⊢
    intro K hK
    rw [evalAt_eq (hlen γ) hd i]
    have val : ∀ (γ' : Γ) (v : Value), (o.dst = none ∨ (vs γ')[i]? = some v) → ∀ d, o.dst = some d → ((putAll ops.toList (vs γ) a0).put o.dst v).tmps[d]? = (putAll ops.toList (vs γ') a0).tmps[d]? := by
      intro γ' v hv d hd'
      rcases hv with hv | hv
      · rw [hv] at hd'; cases hd'
      · rw [slot γ' i o d hi hd', hv, put_get, if_pos]
        refine ⟨hd', ?_⟩
        have := slot γ i o d hi hd'
        have hlt := (Array.getElem?_eq_some_iff.1 hi).1
        rw [List.getElem?_eq_getElem (by rw [hlen]; exact hlt)] at this
        exact (Array.getElem?_eq_some_iff.1 this).1
    rcases h with ⟨v, w', γ', hr, hS, hv, hG⟩ | ⟨w', γ', hr, hS, hv, hG⟩ | ⟨f, args, w0, hr, hc⟩
    · rw [hr]
      exact hK _ _ γ' (put_defs _ _ _) (same γ' hS) (val γ' v hv) hG
    · rw [hr]
      exact hK _ _ γ' (put_defs _ _ _) (same γ' hS) (val γ' undef hv) hG
    · rw [hr, Oper.upon_enter]
      refine hc.mono fun e w' h => ?_
      obtain ⟨v, γ', rfl, hS, hv, hG⟩ := h
      exact hK _ _ γ' (put_defs _ _ _) (same γ' hS) (val γ' v hv) hG
  · rw [if_neg hw] at h ⊢
    refine ⟨fun d hd' => ?_, h.2⟩
    rcases h.1 with hv | hv
    · rw [hv] at hd'; cases hd'
    · rw [slot γ i o d hi hd', hv]
/-- **The law, as it is used.** -/
theorem any_flow {a0 : Act} {w : World} {Q : Exit → Act → World → Prop} (hok : (flowOk ops && dstsOk ops.toList a0.tmps.size && guardsOk ops) = true) {Γ : Type} (vs : Γ → List Value) (G : (Nat → Bool) → Γ → World → Prop)
    (hlen : ∀ γ, (vs γ).length = ops.size) (γ0 : Γ) (h0 : G (fun _ => false) γ0 w.drew)
    (hstep : StepsAll (Owes P ops vs a0 G) 0 ops.toList)
    (hend : ∀ (l : Nat → Bool) (γ : Γ) (w : World), (∀ i, i < ops.size → l i = true) → G l γ w → Q .normal (putAll ops.toList (vs γ) a0) w) : wpAny P .any ops Q ops.size (Array.replicate ops.size false) a0 w.drew := by
  simp only [Bool.and_eq_true] at hok
  refine wpAny_flow hok.1.1 (fun γ => putAll ops.toList (vs γ) a0) G (fun γ => putAll_frame ops (vs γ) a0) γ0 h0 (fun i o hi l γ w hG hl hw hcl => ?_) hend
  have := stepsAll_get ops.toList 0 hstep i o (by rw [Array.getElem?_toList]; exact hi)
  rw [Nat.zero_add] at this
  exact stepV_flow hok.1.2 hok.2 hlen hi (this l γ w hG hl hw hcl)
section
variable {w w' : World} {op : Oper} {ρ : Operand → Value} {v : Value}
theorem exec_append (s x : Operand) (t : TypeId) (ho : op.op = .call { callee := .builtin .append, args := #[s, x], argTypes := #[t, t] }) (vs vx : Value) (hs : ρ s = vs) (hx : ρ x = vx) (h : (Builtin.append_ #[t, t] op.type #[vs, vx]).run P w = .ok v w') : (execOp ρ op).run P w = .ok (.value v) w' := by
  unfold execOp
  simp only [ho, resolve, invoke, builtin, Sem.run_bind, Sem.run_pure, Result.andThen_ok, List.map_toArray, List.map_cons, List.map_nil, hs, hx, h]
end
/-- An operation of a plain region by its run. -/
theorem wpList_exec {P : Program} {w w' : World} {ops : Array Oper} {rest : List Oper} {op : Oper} {a : Act} {Q : Exit → Act → World → Prop} (hgd : op.guard = none) (v : Value)
    (hrun : (execOp a.eval op).run P w = .ok (.value v) w') (h : wpList P ops Q rest (a.put op.dst v) w') : wpList P ops Q (op :: rest) a w :=
  wpList_plain hgd fun _ hK => by
    unfold Oper.wp
    rw [hrun]
    exact hK _ _ h
end
end Go.Proofs.YtpnbpcdmiiakcaaDoor
/- Regions that draw their order: what the order of the text gives, each order gives. No program is named here. -/
namespace Go.Proofs.YtpnbpcdmiiakcaaDoor
set_option linter.unusedSimpArgs false
set_option linter.unusedVariables false
open Go.RowKit
structure Ent where
  e : Eff
  n : Nat
  r : AV
def app (x : Ent) (H : Hp) : Hp := appN x.n x.e.news (appW x.e.ws H)
def touches (x : Ent) (k : Nat) : Bool := (x.e.ws.any fun p => Nat.beq p.1 k) || (Nat.ble x.n k && Nat.blt k (x.n + x.e.news.length))
def uses (x : Ent) (k : Nat) : Bool := touches x k || x.e.rs.any fun i => Nat.beq i k
theorem appW_not {k : Nat} : ∀ {ws : List (Nat × AObj)} {H : Hp}, (ws.any fun p => Nat.beq p.1 k) = false → appW ws H k = H k := fun {ws} {H} h => appW_out fun x hx e => by
  have := List.any_eq_false.1 h x hx
  rw [e] at this
  simp at this
theorem appW_any {k : Nat} : ∀ {ws : List (Nat × AObj)} {H H' : Hp}, (ws.any fun p => Nat.beq p.1 k) = true → appW ws H k = appW ws H' k
  | [], _, _, h => by simp at h
  | (i, o) :: r, H, H', h => by
    rw [appW, appW]
    cases hr : r.any fun p => Nat.beq p.1 k with
    | true => exact appW_any hr
    | false =>
      rw [appW_not hr, appW_not hr]
      have : i = k := by
        simp only [List.any_cons, hr, Bool.or_false] at h
        exact Nat.eq_of_beq_eq_true h
      subst this
      rw [updF_same, updF_same]
theorem app_not {x : Ent} {H : Hp} {k : Nat} (h : touches x k = false) : app x H k = H k := by
  unfold touches at h
  simp only [Bool.or_eq_false_iff, Bool.and_eq_false_iff] at h
  unfold app
  rw [appN_out, appW_not h.1]
  rcases h.2 with h | h
  · left
    have : ¬ Nat.ble x.n k = true := by rw [h]; simp
    rw [Nat.ble_eq] at this; omega
  · right
    have : ¬ Nat.blt k (x.n + x.e.news.length) = true := by rw [h]; simp
    rw [Nat.blt_eq] at this; omega
theorem app_any {x : Ent} {H H' : Hp} {k : Nat} (h : touches x k = true) : app x H k = app x H' k := by
  unfold app
  by_cases hn : x.n ≤ k ∧ k < x.n + x.e.news.length
  · rw [show k = x.n + (k - x.n) by omega, appN_in (by omega), appN_in (by omega)]
  · rw [appN_out (by omega), appN_out (by omega)]
    unfold touches at h
    simp only [Bool.or_eq_true, Bool.and_eq_true, Nat.ble_eq, Nat.blt_eq] at h
    exact appW_any (h.resolve_right hn)
/-- The heap where just the operations of l have been carried out. -/
def hS : List Ent → Nat → (Nat → Bool) → Hp → Hp
  | [], _, _, H => H
  | x :: r, i, l, H => hS r (i + 1) l (if l i = true then app x H else H)
theorem hS_same {k : Nat} : ∀ {es : List Ent} {i : Nat} {l l' : Nat → Bool} {H H' : Hp}, H k = H' k → (∀ j x, es[j]? = some x → touches x k = true → l (i + j) = l' (i + j)) → hS es i l H k = hS es i l' H' k
  | [], _, _, _, _, _, h, _ => h
  | x :: r, i, l, l', H, H', h, hl => by
    rw [hS, hS]
    refine hS_same ?_ fun j y hy ht => by have := hl (j + 1) y (by simpa using hy) ht; rwa [show i + 1 + j = i + (j + 1) by omega]
    cases ht : touches x k with
    | false =>
      have : ∀ H : Hp, ∀ b : Bool, (if b = true then app x H else H) k = H k := fun H b => by cases b <;> simp [app_not ht]
      rw [this, this, h]
    | true =>
      have := hl 0 x rfl ht
      rw [Nat.add_zero] at this
      rw [← this]
      cases l i with
      | true => exact app_any ht
      | false => exact h
theorem hS_last {k : Nat} {Ha : Hp} : ∀ {es : List Ent} {i j : Nat} {x : Ent} {l : Nat → Bool} {H : Hp}, es[j]? = some x → touches x k = true → l (i + j) = true → (∀ m y, j < m → es[m]? = some y → touches y k = true → l (i + m) = false) → hS es i l H k = app x Ha k
  | [], _, _, _, _, _, h, _, _, _ => by simp at h
  | y :: r, i, 0, x, l, H, h, ht, hl, hf => by
    simp at h; subst h
    rw [hS]
    rw [Nat.add_zero] at hl
    rw [if_pos hl]
    have : hS r (i + 1) l (app y H) k = hS r (i + 1) (fun _ => false) (app y H) k := hS_same rfl fun m z hz hzt => by
      have := hf (m + 1) z (by omega) (by simpa using hz) hzt
      rwa [show i + 1 + m = i + (m + 1) by omega]
    rw [this]
    have nul : ∀ (es : List Ent) (i : Nat) (H : Hp), hS es i (fun _ => false) H = H := by
      intro es
      induction es with
      | nil => intro i H; rfl
      | cons z es ih => intro i H; rw [hS, if_neg (by simp), ih]
    rw [nul]
    exact app_any ht
  | y :: r, i, j + 1, x, l, H, h, ht, hl, hf => by
    rw [hS]
    exact hS_last (by simpa using h) ht (by rwa [show i + 1 + j = i + (j + 1) by omega]) fun m z hm hz hzt => by
      have := hf (m + 1) z (by omega) (by simpa using hz) hzt
      rwa [show i + 1 + m = i + (m + 1) by omega]
/-! ### who waits for whom -/
/-- i is waited for by j, at first or at second hand. -/
inductive Anc (ops : Array Oper) : Nat → Nat → Prop
  | one {i j : Nat} {o : Oper} {e : Edge} (ho : ops[j]? = some o) (he : e ∈ o.after) (hb : Region.binds .any e = true) (hi : e.on = i) : Anc ops i j
  | more {i m j : Nat} {o : Oper} {e : Edge} (ho : ops[j]? = some o) (he : e ∈ o.after) (hb : Region.binds .any e = true) (hm : e.on = m) (h : Anc ops i m) : Anc ops i j
def depMask (acc : List Nat) : List Edge → Nat
  | [] => 0
  | e :: r => (match Region.binds .any e with | true => 2 ^ e.on ||| acc.getD e.on 0 | false => 0) ||| depMask acc r
def ancMasks : List Oper → List Nat → List Nat
  | [], acc => acc
  | o :: r, acc => ancMasks r (acc ++ [depMask acc o.after.toList])
theorem depMask_bit {acc : List Nat} {i : Nat} : ∀ {es : List Edge}, (depMask acc es).testBit i = true → ∃ e ∈ es, Region.binds .any e = true ∧ (e.on = i ∨ (acc.getD e.on 0).testBit i = true)
  | [], h => by simp [depMask] at h
  | e :: r, h => by
    rw [depMask, Nat.testBit_or, Bool.or_eq_true] at h
    rcases h with h | h
    · cases hb : Region.binds .any e with
      | false => rw [hb] at h; simp at h
      | true =>
        rw [hb] at h
        simp only at h
        rw [Nat.testBit_or, Bool.or_eq_true, Nat.testBit_two_pow] at h
        refine ⟨e, List.mem_cons_self .., hb, h.imp (fun h => by simpa using h) id⟩
    · obtain ⟨e', h1, h2⟩ := depMask_bit (es := r) h
      exact ⟨e', List.mem_cons_of_mem _ h1, h2⟩
theorem ancMasks_bit {ops : Array Oper} : ∀ {l : List Oper} {acc : List Nat}, (∀ j o, l[j]? = some o → ops[acc.length + j]? = some o) → (∀ i j, (acc.getD j 0).testBit i = true → Anc ops i j) → ∀ i j, ((ancMasks l acc).getD j 0).testBit i = true → Anc ops i j
  | [], acc, _, h, i, j => h i j
  | o :: r, acc, hl, h, i, j => by
    rw [ancMasks]
    refine ancMasks_bit (fun j p hp => ?_) (fun i j hij => ?_) i j
    · have := hl (j + 1) p (by simpa using hp)
      rw [List.length_append]
      rwa [show acc.length + [depMask acc o.after.toList].length + j = acc.length + (j + 1) by simp; omega]
    · rcases Nat.lt_trichotomy j acc.length with hj | hj | hj
      · refine h i j ?_
        rwa [List.getD_eq_getElem?_getD, List.getElem?_append_left hj, ← List.getD_eq_getElem?_getD] at hij
      · subst hj
        rw [List.getD_eq_getElem?_getD, List.getElem?_append_right (Nat.le_refl _)] at hij
        simp at hij
        obtain ⟨e, he, hb, hi⟩ := depMask_bit hij
        have ho := hl 0 o rfl
        rw [Nat.add_zero] at ho
        rcases hi with hi | hi
        · exact .one ho (by simpa using he) hb hi
        · exact .more ho (by simpa using he) hb rfl (h i _ hi)
      · rw [List.getD_eq_getElem?_getD, List.getElem?_eq_none (by simp only [List.length_append, List.length_cons, List.length_nil]; omega), Option.getD_none, Nat.zero_testBit] at hij
        cases hij
theorem Anc.listed {ops : Array Oper} {l : Nat → Bool} (hcl : ∀ (j : Nat) (p : Oper), ops[j]? = some p → l j = true → ∀ e ∈ p.after, Region.binds .any e = true → l e.on = true) {i j : Nat} (h : Anc ops i j) : l j = true → l i = true := by
  induction h with
  | one ho he hb hi => intro hj; subst hi; exact hcl _ _ ho hj _ he hb
  | more ho he hb hm _ ih => intro hj; subst hm; exact ih (hcl _ _ ho hj _ he hb)
theorem Anc.ready {ops : Array Oper} {l : Nat → Bool} (hcl : ∀ (j : Nat) (p : Oper), ops[j]? = some p → l j = true → ∀ e ∈ p.after, Region.binds .any e = true → l e.on = true) {i j : Nat} (h : Anc ops i j) {o : Oper} (ho' : ops[j]? = some o) (hr : ∀ e ∈ o.after, Region.binds .any e = true → l e.on = true) : l i = true := by
  cases h with
  | one ho he hb hi => rw [ho] at ho'; injection ho' with e; subst e hi; exact hr _ he hb
  | more ho he hb hm h => rw [ho] at ho'; injection ho' with e; subst e hm; exact h.listed hcl (hr _ he hb)
/-- The places that two entries may quarrel about. -/
def idsOf (x : Ent) : List Nat := x.e.ws.map (·.1) ++ (List.range x.e.news.length).map (x.n + ·)
def conflict (x y : Ent) : Bool := ((idsOf x).any fun k => uses y k) || (idsOf y).any fun k => uses x k
def laterOk (masks : List Nat) (i : Nat) (x : Ent) : Nat → List Ent → Bool
  | _, [] => true
  | j, y :: r => (!conflict x y || (masks.getD j 0).testBit i) && laterOk masks i x (j + 1) r
def pairsOk (masks : List Nat) : Nat → List Ent → Bool
  | _, [] => true
  | i, x :: r => laterOk masks i x (i + 1) r && pairsOk masks (i + 1) r
def orderB (ops : List Oper) (es : List Ent) : Bool := pairsOk (ancMasks ops []) 0 es
theorem mem_idsOf {x : Ent} {k : Nat} (h : touches x k = true) : k ∈ idsOf x := by
  unfold touches at h
  simp only [Bool.or_eq_true, List.any_eq_true, Bool.and_eq_true, Nat.ble_eq, Nat.blt_eq] at h
  unfold idsOf
  rcases h with ⟨p, hp, e⟩ | h
  · have := Nat.eq_of_beq_eq_true e
    subst this
    exact List.mem_append_left _ (List.mem_map.2 ⟨p, hp, rfl⟩)
  · exact List.mem_append_right _ (List.mem_map.2 ⟨k - x.n, List.mem_range.2 (by omega), by omega⟩)
theorem conflict_of {x y : Ent} {k : Nat} (h : (touches x k = true ∧ uses y k = true) ∨ (touches y k = true ∧ uses x k = true)) : conflict x y = true := by
  unfold conflict
  simp only [Bool.or_eq_true, List.any_eq_true]
  rcases h with ⟨h1, h2⟩ | ⟨h1, h2⟩
  · exact .inl ⟨k, mem_idsOf h1, h2⟩
  · exact .inr ⟨k, mem_idsOf h1, h2⟩
theorem laterOk_get {masks : List Nat} {i : Nat} {x : Ent} : ∀ {l : List Ent} {j : Nat}, laterOk masks i x j l = true → ∀ {m : Nat} {y : Ent}, l[m]? = some y → conflict x y = true → (masks.getD (j + m) 0).testBit i = true
  | [], _, _, m, y, hy, _ => by simp at hy
  | z :: r, j, h, 0, y, hy, hc => by
    simp at hy; subst hy
    simp [laterOk] at h
    have := h.1.resolve_left (by rw [hc]; simp)
    simpa using this
  | z :: r, j, h, m + 1, y, hy, hc => by
    simp only [laterOk, Bool.and_eq_true] at h
    have := laterOk_get h.2 (m := m) (y := y) (by simpa using hy) hc
    rwa [show j + 1 + m = j + (m + 1) by omega] at this
theorem pairsOk_get {masks : List Nat} : ∀ {l : List Ent} {i : Nat}, pairsOk masks i l = true → ∀ {a b : Nat} {x y : Ent}, a < b → l[a]? = some x → l[b]? = some y → conflict x y = true → (masks.getD (i + b) 0).testBit (i + a) = true
  | [], _, _, a, b, x, y, _, h, _, _ => by simp at h
  | z :: r, i, h, 0, b, x, y, hab, hx, hy, hc => by
    simp at hx; subst hx
    simp only [pairsOk, Bool.and_eq_true] at h
    obtain ⟨b', rfl⟩ : ∃ b', b = b' + 1 := ⟨b - 1, by omega⟩
    have := laterOk_get h.1 (m := b') (y := y) (by simpa using hy) hc
    rwa [show i + 1 + b' = i + (b' + 1) by omega] at this
  | z :: r, i, h, a + 1, b, x, y, hab, hx, hy, hc => by
    simp only [pairsOk, Bool.and_eq_true] at h
    obtain ⟨b', rfl⟩ : ∃ b', b = b' + 1 := ⟨b - 1, by omega⟩
    have := pairsOk_get h.2 (a := a) (b := b') (by omega) (by simpa using hx) (by simpa using hy) hc
    rwa [show i + 1 + b' = i + (b' + 1) by omega, show i + 1 + a = i + (a + 1) by omega] at this
end Go.Proofs.YtpnbpcdmiiakcaaDoor
/- From a walk to a walk in a frame that may be a round's. No program is named here. -/
namespace Go.Proofs.YtpnbpcdmiiakcaaDoor
set_option linter.unusedSimpArgs false
set_option linter.unusedVariables false
open Go.RowKit
/-- A fence that lets all in; of functions' frames, or of a round's. -/
abbrev Fw (ro : Option Nat) : Fence := { Fence.wide with round := ro }
section
variable {P : Program} {ro : Option Nat} {n : Nat} {Q : Exit → Act → World → Prop} {a : Act} {w : World} {ops : Array Oper} {o : Oper}
theorem stepsIn_ro {m m' : Machine} : StepsIn (Machine.fenced P (Fw ro)) P m m' ↔ Steps P m m' := stepsIn_wide
theorem callsIn_ro {f : FuncId} {args : Array Value} {R : Ending → World → Prop} (h : Calls P f args w R) : CallsIn (Fw ro) n P f args w R := (callsIn_wide (n := n)).2 h
theorem rowsIn_ro {row : String} {args : Array Value} {R : Value → World → Prop} (h : Rows P row args w R) : RowsIn (Fw ro) n P row args w R := fun c cs _ => by
  obtain ⟨v, w', r, s⟩ := h c cs
  exact ⟨v, w', r, stepsIn_ro.2 s⟩
theorem wpIn_ro {next : Act → World → Prop} (hd : ∀ c, o.op ≠ .defer c) (h : o.wp P a w next Q) : o.wpIn (Fw ro) n P a w next Q := by
  refine ⟨fun _ _ => trivial, ?_⟩
  rw [show (Fw ro).round = ro from rfl, Oper.semAt_eq ro _ _ hd]
  unfold Oper.wp at h
  generalize (execOp a.eval o).run P w = r at h
  cases r with
  | ok x w' =>
    cases x with
    | value v => exact h
    | skip => exact h
    | defer d => exact h
    | enter f args => exact And.intro (fun q => Bool.noConfusion q) (callsIn_ro h)
    | row row args => exact And.intro (fun q => Bool.noConfusion q) (rowsIn_ro h)
    | round l f tmps assign body => exact h.elim
    | _ => exact h.elim
  | halt x w' =>
    cases x <;> first | exact h | exact h.elim
def noDefer : List Oper → Bool
  | [] => true
  | o :: r => (match o.op with | .defer _ => false | _ => true) && noDefer r
theorem noDefer_out : ∀ {l : List Oper}, noDefer l = true → ∀ o ∈ l, ∀ c, o.op ≠ .defer c
  | [], _, o, h, _ => by simp at h
  | p :: r, hn, o, h, c => by
    simp only [noDefer, Bool.and_eq_true] at hn
    rcases List.mem_cons.1 h with e | e
    · subst e
      intro q
      rw [q] at hn
      exact absurd hn.1 (by simp)
    · exact noDefer_out hn.2 o e c
theorem wpAnyIn_ro {md : Region.Mode} (hd : noDefer ops.toList = true) (hQ : ¬ LetsOut Q) : ∀ (fuel : Nat) (listed : Array Bool) (a : Act) (w : World), wpAny P md ops Q fuel listed a w → wpAnyIn (Fw ro) n P md ops Q fuel listed a w
  | 0, listed, a, w, h => h
  | fuel + 1, listed, a, w, h => by
    refine ⟨h.1, fun i hi => ?_⟩
    have h2 := h.2 i hi
    unfold wpOp at h2
    unfold wpOpIn
    split
    · rename_i hn
      rw [hn] at h2
      exact wpAnyIn_ro hd hQ fuel _ a w h2
    · rename_i o ho
      rw [ho] at h2
      simp only at h2
      have hm : o ∈ ops.toList := List.mem_of_getElem? (i := i) (by rw [Array.getElem?_toList]; exact ho)
      split
      · rename_i hw
        rw [if_pos hw] at h2
        rcases h2 with h2 | h2
        · exact Oper.wpIn_mono (fun a w => wpAnyIn_ro hd hQ fuel _ a w) (wpIn_ro (noDefer_out hd o hm) h2)
        · exact absurd h2.2 hQ
      · rename_i hw
        rw [if_neg hw] at h2
        exact ⟨fun _ _ => trivial, wpAnyIn_ro hd hQ fuel _ _ w h2⟩
end
end Go.Proofs.YtpnbpcdmiiakcaaDoor
/- Regions. No program is named here. -/
namespace Go.Proofs.YtpnbpcdmiiakcaaDoor
set_option linter.unusedSimpArgs false
set_option linter.unusedVariables false
open Go.RowKit
def wsK : List (Nat × AObj) → List AObj → (List AObj → Prop) → Prop
  | [], L, k => k L
  | (i, o) :: r, L, k => fObj o fun o => setK L i o fun L' => wsK r L' k
def fObjs : List AObj → (List AObj → Prop) → Prop
  | [], k => k []
  | o :: r, k => fObj o fun o => fObjs r fun l => k (o :: l)
theorem fObjs_out : ∀ {l : List AObj} {k : List AObj → Prop}, fObjs l k → k l
  | [], _, h => h
  | _ :: r, _, h => fObjs_out (l := r) (fObj_out h)
def applyK (e : Eff) (L : List AObj) (k : List AObj → Prop) : Prop := wsK e.ws L fun L' => fObjs e.news fun ns => appK L' ns k
theorem hp_set {L : List AObj} {i : Nat} {o : AObj} (h : i < L.length) : hp (L.set i o) = updF (hp L) i (some o) := by
  funext j
  unfold hp updF
  by_cases e : j = i
  · subst e; simp [h]
  · rw [if_neg e, List.getElem?_set_ne (Ne.symm e)]
theorem hp_app : ∀ {l L : List AObj}, hp (L ++ l) = appN L.length l (hp L)
  | [], L => by simp [appN]
  | o :: r, L => by
    rw [appN, ← List.singleton_append, ← List.append_assoc, hp_app (l := r) (L := L ++ [o])]
    have : hp (L ++ [o]) = updF (hp L) L.length (some o) := by
      funext j
      unfold hp updF
      by_cases e : j = L.length
      · subst e; simp
      · rw [if_neg e]
        rcases Nat.lt_or_ge j L.length with q | q
        · rw [List.getElem?_append_left q]
        · rw [List.getElem?_eq_none (by simp; omega)]; exact (List.getElem?_eq_none q).symm
    rw [this]; simp
theorem wsK_out : ∀ {ws : List (Nat × AObj)} {L : List AObj} {k : List AObj → Prop}, wsK ws L k → ∃ L', k L' ∧ hp L' = appW ws (hp L) ∧ L'.length = L.length
  | [], L, _, h => ⟨L, h, rfl, rfl⟩
  | (i, o) :: r, L, k, h => by
    obtain ⟨h1, h2⟩ := setK_out (fObj_out h)
    obtain ⟨L', h3, h4, h5⟩ := wsK_out h2
    exact ⟨L', h3, by rw [h4, hp_set h1]; rfl, by rw [h5]; simp⟩
theorem applyK_out {e : Eff} {L : List AObj} {k : List AObj → Prop} (h : applyK e L k) : ∃ L', k L' ∧ hp L' = appN L.length e.news (appW e.ws (hp L)) ∧ L.length ≤ L'.length := by
  obtain ⟨L1, h1, h2, h3⟩ := wsK_out h
  have h4 := appK_out (fObjs_out h1)
  exact ⟨_, h4, by rw [hp_app, h2, h3], by simp; omega⟩
def putK (N : Nat) (dst : Option Tmp) (x : AV) (tm : Tm) (k : Tm → Prop) : Prop :=
  match dst with
  | none => k tm
  | some d => match Nat.blt d N with
    | true => k ((d, x) :: tm)
    | false => False
def oNth : List Oper → Nat → Option Oper
  | [], _ => none
  | o :: _, 0 => some o
  | _ :: r, n + 1 => oNth r n
theorem oNth_eq : ∀ {l : List Oper} {n : Nat}, oNth l n = l[n]?
  | [], _ => rfl
  | _ :: _, 0 => rfl
  | _ :: r, n + 1 => by simpa [oNth] using oNth_eq (l := r) (n := n)
def gvK (ol : List Oper) (o : Oper) (tm : Tm) (A B : Tm → Prop) : Prop :=
  match o.guard with
  | none => A tm
  | some (j, want) => match oNth ol j with
    | some p => match p.dst with
      | some d => match lk tm d with
        | .d (.v (.bool b)) => match want with
          | true => (b = true → A ((d, .d (.v (.bool true))) :: tm)) ∧ (b = false → B ((d, .d (.v (.bool false))) :: tm))
          | false => (b = false → A ((d, .d (.v (.bool false))) :: tm)) ∧ (b = true → B ((d, .d (.v (.bool true))) :: tm))
        | .d (.v (.tuple _)) => B tm
        | _ => False
      | none => False
    | none => False
def boolOf (u : Value) : Option Bool := match u with | .bool b => some b | _ => none
/-- What stands for an operation that is passed over. -/
abbrev skipAV : AV := .d (.v (.tuple #[]))
/-- Is the operation carried out? -/
def guardIs (ol : List Oper) (o : Oper) (tm : Tm) (g : Bool) : Prop :=
  (o.guard = none ∧ g = true) ∨ ∃ j want p d u, o.guard = some (j, want) ∧ ol[j]? = some p ∧ p.dst = some d ∧ lk tm d = .d (.v u) ∧ g = (boolOf u == some want)
theorem lk_cons {tm : Tm} {d : Nat} {x : AV} {k : Nat} : lk ((d, x) :: tm) k = if d = k then x else lk tm k := by
  rw [lk]
  by_cases e : d = k
  · subst e; simp
  · have : Nat.beq d k = false := by cases h : Nat.beq d k with | false => rfl | true => exact absurd (Nat.eq_of_beq_eq_true h) e
    rw [this, if_neg e]
/-- The slots' values are written differently. -/
def SameTm (tm tm' : Tm) : Prop := ∀ k, lk tm' k = lk tm k
theorem SameTm.put {tm : Tm} {d : Nat} {x : AV} (h : lk tm d = x) : SameTm tm ((d, x) :: tm) := fun k => by
  rw [lk_cons]
  split
  · rename_i e; subst e; exact h.symm
  · rfl
theorem gvK_out {ol : List Oper} {o : Oper} {tm : Tm} {A B : Tm → Prop} (h : gvK ol o tm A B) : ∃ tm', SameTm tm tm' ∧ ((guardIs ol o tm' true ∧ A tm') ∨ (guardIs ol o tm' false ∧ B tm')) := by
  unfold gvK at h
  split at h
  · rename_i hg; exact ⟨tm, fun _ => rfl, .inl ⟨.inl ⟨hg, rfl⟩, h⟩⟩
  · rename_i j want hg
    split at h
    · rename_i p hp
      rw [oNth_eq] at hp
      split at h
      · rename_i d hd
        split at h
        · rename_i b hb
          have hs : ∀ c, b = c → SameTm tm ((d, .d (.v (.bool c))) :: tm) := fun c e => .put (by rw [hb, e])
          have hl : ∀ c, lk ((d, .d (.v (.bool c))) :: tm) d = .d (.v (.bool c)) := fun c => by rw [lk_cons, if_pos rfl]
          cases want <;> cases b
          · exact ⟨_, hs _ rfl, .inl ⟨.inr ⟨j, _, p, d, _, hg, hp, hd, hl _, rfl⟩, h.1 rfl⟩⟩
          · exact ⟨_, hs _ rfl, .inr ⟨.inr ⟨j, _, p, d, _, hg, hp, hd, hl _, rfl⟩, h.2 rfl⟩⟩
          · exact ⟨_, hs _ rfl, .inr ⟨.inr ⟨j, _, p, d, _, hg, hp, hd, hl _, rfl⟩, h.2 rfl⟩⟩
          · exact ⟨_, hs _ rfl, .inl ⟨.inr ⟨j, _, p, d, _, hg, hp, hd, hl _, rfl⟩, h.1 rfl⟩⟩
        · rename_i vs hb
          exact ⟨tm, fun _ => rfl, .inr ⟨.inr ⟨j, _, p, d, _, hg, hp, hd, hb, rfl⟩, h⟩⟩
        · exact h.elim
      · exact h.elim
    · exact h.elim
abbrev OpsF := Tm → List AObj → (Tm → List AObj → Prop) → Prop
/-- The next entry of a map: any one that is left. -/
def nextB (op : Op) : Bool := match op with | .next _ _ => true | _ => false
def DoesN (P : Program) (op : Op) (ty : TypeId) (L : List AObj) (xs : List AV) {X : Type} (R : X → Prop) (ws : X → List (Nat × AObj)) (r : X → AV) : Prop :=
  ∀ (o : Oper) (F : Nat → Prop) (ρ : Nat → Option Value) (w : World) (ev : Operand → Value), o.op = op → o.type = ty → Env F ρ (hp L) w → RAs w F ρ xs (op.operands.toList.map ev) →
    ∃ x, R x ∧ Runs P ((execOp ev o).run P w) (Post F ρ (hp L) w (appW (ws x) (hp L)) (r x))
def nextK (P : Program) (op : Op) (ty : TypeId) (ev : Operand → AV) (L : List AObj) (K : Eff → AV → Prop) : Prop :=
  evsK ev op.operands.toList fun xs => ∃ (X : Type) (R : X → Prop) (ws : X → List (Nat × AObj)) (r : X → AV), DoesN P op ty L xs R ws r ∧ ∀ x, R x → fRes (r x) (K ⟨[], ws x, []⟩)
def opNK (P : Program) (T : TypeId → TI) (E : Nat → Bool) (op : Op) (ty : TypeId) (ev : Operand → AV) (L : List AObj) (K : Eff → AV → Prop) : Prop :=
  match nextB op with
  | true => nextK P op ty ev L K
  | false => opK P T E op ty ev L K
def opStep (P : Program) (T : TypeId → TI) (E : Nat → Bool) (N : Nat) (ol : List Oper) (o : Oper) (ih : OpsF) : OpsF := fun tm L K =>
  gvK ol o tm (fun tm => opNK P T E o.op o.type (evAV tm) L fun e x => applyK e L fun L' => putK N o.dst x tm fun tm' => ih tm' L' K) (fun tm => putK N o.dst skipAV tm fun tm' => ih tm' L K)
def opsEnd : OpsF := fun tm L K => K tm L
def vcOps (P : Program) (T : TypeId → TI) (E : Nat → Bool) (N : Nat) (ol : List Oper) (l : List Oper) : OpsF :=
  List.rec (motive := fun _ => OpsF) opsEnd (fun o _ ih => opStep P T E N ol o ih) l
abbrev DrawF := Tm → List AObj → (List Ent → List Ent) → (List Ent → Tm → List AObj → Prop) → Prop
def drawStep (P : Program) (T : TypeId → TI) (E : Nat → Bool) (N : Nat) (ol : List Oper) (o : Oper) (ih : DrawF) : DrawF := fun tm L es K =>
  gvK ol o tm (fun tm => opK P T E o.op o.type (evAV tm) L fun e x => lenNK L fun n => applyK e L fun L' => putK N o.dst x tm fun tm' => ih tm' L' (fun l => es (⟨e, n, x⟩ :: l)) K)
    (fun tm => lenNK L fun n => putK N o.dst skipAV tm fun tm' => ih tm' L (fun l => es (⟨e0, n, skipAV⟩ :: l)) K)
def drawEnd : DrawF := fun tm L es K => K (es []) tm L
def drawOps (P : Program) (T : TypeId → TI) (E : Nat → Bool) (N : Nat) (ol : List Oper) (l : List Oper) : DrawF :=
  List.rec (motive := fun _ => DrawF) drawEnd (fun o _ ih => drawStep P T E N ol o ih) l
/-- What is in the slots. -/
def Slots (w : World) (F : Nat → Prop) (ρ : Nat → Option Value) (N : Nat) (tm : Tm) (a : Act) : Prop := (∀ d, RA w F ρ (lk tm d) (a.tmps.getD d undef)) ∧ a.tmps.size = N
section
variable {P : Program} {w w' : World} {F F' : Nat → Prop} {ρ ρ' : Nat → Option Value} {L L' : List AObj} {T : TypeId → TI} {E : Nat → Bool} {N : Nat} {tm tm' : Tm} {a : Act}
theorem Slots.mono (h : Slots w F ρ N tm a) (S : Step F ρ (hp L) w F' ρ' (hp L') w') (En : Env F ρ (hp L) w) (k : Keep ρ ρ') : Slots w' F' ρ' N tm a := ⟨fun d => S.ra En k (h.1 d), h.2⟩
theorem Slots.same (h : Slots w F ρ N tm a) (hs : SameTm tm tm') : Slots w F ρ N tm' a := ⟨fun d => by rw [hs d]; exact h.1 d, h.2⟩
theorem Slots.put (h : Slots w F ρ N tm a) {dst : Option Tmp} {x : AV} {v : Value} (hv : RA w F ρ x v) {k : Tm → Prop} (hp : putK N dst x tm k) : ∃ tm', k tm' ∧ Slots w F ρ N tm' (a.put dst v) ∧ ∀ j, lk tm' j = if dst = some j then x else lk tm j := by
  unfold putK at hp
  split at hp
  · exact ⟨tm, hp, h, fun j => by simp⟩
  · rename_i d
    split at hp
    · rename_i hd
      rw [Nat.blt_eq] at hd
      refine ⟨_, hp, ⟨fun j => ?_, by simp [Act.put, h.2]⟩, fun j => by rw [lk_cons]; simp⟩
      rw [lk_cons]
      by_cases e : d = j
      · subst e
        rw [if_pos rfl]
        have hlt : d < a.tmps.size := by rw [h.2]; exact hd
        simpa [Act.put, hlt] using hv
      · rw [if_neg e]
        have := h.1 j
        have e2 : (a.put (some d) v).tmps.getD j undef = a.tmps.getD j undef := by simp [Act.put, Array.getElem?_setIfInBounds_ne e]
        rw [e2]; exact this
    · exact hp.elim
theorem const_rep {v : Value} : RA w F ρ (constAV v) v := by
  unfold constAV
  split
  · rename_i cs
    split
    · rename_i hc
      have := dv_rep (w := w) (F := F) (vs := cs.toList) (fun v hv => by have := List.all_eq_true.1 hc v hv; exact this)
      simpa using RA.d (ρ := ρ) (RD.agg this)
    · exact .any _
  · exact .d (.v _)
  · exact .d (.v _)
  · exact .d (.v _)
  · exact .d (.v _)
theorem Slots.eval (h : Slots w F ρ N tm a) (x : Operand) : RA w F ρ (evAV tm x) (a.eval x) := by
  cases x with
  | tmp t => exact h.1 t
  | const v => exact const_rep
  | global g => exact .d (.v _)
  | func f => exact .fn .nil .nil
theorem RAs.of_map {ev : Operand → AV} {ev' : Operand → Value} (h : ∀ x, RA w F ρ (ev x) (ev' x)) : ∀ (os : List Operand), RAs w F ρ (os.map ev) (os.map ev')
  | [] => .nil
  | o :: r => .cons (h o) (RAs.of_map h r)
theorem Slots.bool (h : Slots w F ρ N tm a) {d : Nat} {u : Value} (hb : lk tm d = .d (.v u)) : (a.tmps[d]? = some u) ∨ (a.tmps[d]? = none ∧ u = undef) := by
  have := h.1 d
  rw [hb] at this
  have := this.v_out
  cases hd : a.tmps[d]? with
  | none => simp [hd] at this; exact .inr ⟨rfl, this.symm⟩
  | some u => simp [hd] at this; rw [this]; exact .inl rfl
def yieldOf (x : Option Value) : Option Bool := match x with | some (.bool b) => some b | _ => none
theorem yields_of {x : Option Value} {u : Value} (h : x = some u ∨ (x = none ∧ u = undef)) : yieldOf x = boolOf u := by
  rcases h with rfl | ⟨rfl, rfl⟩
  · cases u <;> rfl
  · rfl
theorem Slots.guard {ops : Array Oper} {o : Oper} {g : Bool} (h : Slots w F ρ N tm a) (hg : guardIs ops.toList o tm g) : Region.wanted o (yielded ops a.tmps) = g := by
  rcases hg with ⟨h1, rfl⟩ | ⟨j, want, p, d, u, h1, h2, h3, h4, rfl⟩
  · simp [Region.wanted, h1]
  · have h5 := h.bool h4
    rw [Array.getElem?_toList] at h2
    have : yielded ops a.tmps j = boolOf u := by
      unfold yielded
      rw [h2]
      show yieldOf ((p.dst).bind (a.tmps[·]?)) = _
      rw [h3]
      exact yields_of h5
    simp [Region.wanted, h1, this]
/-- What is deferred: marks of ranges over functions alone, whose blocks lie as they were laid, and belong to nobody. -/
def markOf (r : Nat) : Deferred := { target := .collected r, args := #[] }
def Marks (F : Nat → Prop) (ρ : Nat → Option Value) (H : Hp) (w : World) (n0 : Nat) (ds : List Deferred) : Prop :=
  ∃ rs : List Nat, ds = rs.map markOf ∧ rs.Nodup ∧ ∀ r ∈ rs, n0 ≤ r ∧ r < w.heap.size ∧ ¬ F r ∧ ¬ Lv ρ H r ∧ w.heap[r]? = some (.deferred (some []))
theorem Marks.nil {H : Hp} {n0 : Nat} : Marks F ρ H w n0 [] := ⟨[], rfl, List.nodup_nil, fun r h => by simp at h⟩
theorem Marks.step {H H' : Hp} {n0 : Nat} {ds : List Deferred} (h : Marks F ρ H w n0 ds) (S : Step F ρ H w F' ρ' H' w') : Marks F' ρ' H' w' n0 ds := by
  obtain ⟨rs, e, hn, h⟩ := h
  refine ⟨rs, e, hn, fun r hr => ?_⟩
  obtain ⟨h1, h2, h3, h4, h5⟩ := h r hr
  refine ⟨h1, Nat.lt_of_lt_of_le h2 S.size, fun q => ?_, fun q => ?_, (S.unch r h2 h4).trans h5⟩
  · rcases S.fsrc r q with q | q | q
    · exact h3 q
    · omega
    · exact h4 q
  · rcases S.lsrc r q with q | q
    · omega
    · exact h4 q
/-- Where a function's body stands: what was at its beginning, and what is now. -/
def In (F0 : Nat → Prop) (ρ0 : Nat → Option Value) (H0 : Hp) (w0 : World) (nm : Nat) (ρk : Nat → Option Value) (k0 N : Nat) (tm : Tm) (L : List AObj) (a : Act) (w : World) : Prop :=
  ∃ F ρ, Step F0 ρ0 H0 w0 F ρ (hp L) w ∧ Keep ρk ρ ∧ Env F ρ (hp L) w ∧ Slots w F ρ N tm a ∧ k0 ≤ L.length ∧ Marks F ρ (hp L) w nm a.defers
variable {F0 : Nat → Prop} {ρ0 ρk : Nat → Option Value} {H0 : Hp} {w0 : World} {nm k0 : Nat} {K : Tm → List AObj → Prop} {Q : Exit → Act → World → Prop} {ops : Array Oper} {ro : Option Nat} {nF : Nat}
theorem runs_not_defer {o : Oper} {ev : Operand → Value} {post : Value → World → Prop} {c : Call} (ho : o.op = .defer c) (h : Runs P ((execOp ev o).run P w) post) : False := by
  simp only [execOp, ho, Sem.run_bind] at h
  generalize (resolve ev c o.type).run P w = r at h
  cases r with
  | ok x w' => simp [Result.andThen, Runs] at h
  | halt x w' => simp [Result.andThen, Runs] at h
theorem Runs.wp {o : Oper} {e : Eff} {x : AV} {next : Act → World → Prop} (hr : Runs P ((execOp a.eval o).run P w) (Post F ρ (hp L) w (appN L.length e.news (appW e.ws (hp L))) x)) (S0 : Step F0 ρ0 H0 w0 F ρ (hp L) w) (K0 : Keep ρk ρ) (En : Env F ρ (hp L) w) (Sl : Slots w F ρ N tm a) (hM : Marks F ρ (hp L) w nm a.defers)
    (hle : L.length ≤ L'.length) (hL' : hp L' = appN L.length e.news (appW e.ws (hp L))) (h : ∀ v w' F' ρ', Step F0 ρ0 H0 w0 F' ρ' (hp L') w' → Keep ρk ρ' → Env F' ρ' (hp L') w' → Slots w' F' ρ' N tm a → RA w' F' ρ' x v → Marks F' ρ' (hp L') w' nm a.defers → next (a.put o.dst v) w') : o.wpIn (Fw ro) nF P a w next Q := by
  refine wpIn_ro (fun c ho => runs_not_defer ho hr) ?_
  have post : ∀ v w', Post F ρ (hp L) w (appN L.length e.news (appW e.ws (hp L))) x v w' → next (a.put o.dst v) w' := by
    rintro v w' ⟨F', ρ', S1, K1, E1, R1⟩
    rw [← hL'] at S1 E1
    exact h v w' F' ρ' (S0.trans S1) (K0.trans K1) E1 (Sl.mono S1 En K1) R1 (hM.step S1)
  unfold Oper.wp
  unfold Runs at hr
  split at hr
  · rename_i v w' hrun; rw [hrun]; exact post v w' hr
  · rename_i w' hrun; rw [hrun]; exact post undef w' hr
  · rename_i f args w' hrun
    rw [hrun, Oper.upon_enter]
    refine hr.mono ?_
    rintro en w'' ⟨v, rfl, hp⟩
    exact post v w'' hp
  · exact hr.elim
theorem Does.runs {o : Oper} {e : Eff} {x : AV} (hD : Does P o.op o.type L L.length (o.op.operands.toList.map (evAV tm)) e x) (En : Env F ρ (hp L) w) (Sl : Slots w F ρ N tm a) : Runs P ((execOp a.eval o).run P w) (Post F ρ (hp L) w (appN L.length e.news (appW e.ws (hp L))) x) :=
  hD o (hp L) F ρ w a.eval rfl rfl En (fun _ _ => rfl) (fun k _ => List.getElem?_eq_none (by omega)) (RAs.of_map (fun x => Sl.eval x) _)
/-- **A region in the order of its text.** -/
theorem vcOps_out (hT : T = tiOf P) (hE : ∀ g, E g = true → entersB P g = true) : ∀ (l : List Oper) (tm : Tm) (L : List AObj) (a : Act) (w : World), vcOps P T E N ops.toList l tm L K → In F0 ρ0 H0 w0 nm ρk k0 N tm L a w →
    (∀ tm L a w, K tm L → In F0 ρ0 H0 w0 nm ρk k0 N tm L a w → Q .normal a w) → wpListIn (Fw ro) nF P ops Q l a w
  | [], tm, L, a, w, h, hI, hK => hK tm L a w h hI
  | o :: r, tm, L, a, w, h, hI, hK => by
    have h : opStep P T E N ops.toList o (vcOps P T E N ops.toList r) tm L K := h
    unfold opStep at h
    obtain ⟨F, ρ, S0, K0, En, Sl, hk, hM⟩ := hI
    rw [wpListIn]
    obtain ⟨tm0, hs, h⟩ := gvK_out h
    replace Sl := Sl.same hs
    rcases h with ⟨hg, h⟩ | ⟨hg, h⟩
    · rw [Sl.guard hg, if_pos rfl]
      have h : ∃ e x, (applyK e L fun L' => putK N o.dst x tm0 fun tm' => vcOps P T E N ops.toList r tm' L' K) ∧ Runs P ((execOp a.eval o).run P w) (Post F ρ (hp L) w (appN L.length e.news (appW e.ws (hp L))) x) := by
        unfold opNK at h
        split at h
        · obtain ⟨X, R, ws, rr, hD, hK⟩ := evsK_out h
          obtain ⟨y, hy, hr⟩ := hD o F ρ w a.eval rfl rfl En (RAs.of_map (fun x => Sl.eval x) _)
          exact ⟨⟨[], ws y, []⟩, rr y, fRes_out (hK y hy), hr⟩
        · obtain ⟨e, x, h1, h2⟩ := opK_out hT hE h
          exact ⟨e, x, h1, h2.runs En Sl⟩
      obtain ⟨e, x, h1, h2⟩ := h
      obtain ⟨L', h3, h4, h5⟩ := applyK_out h1
      refine h2.wp S0 K0 En Sl hM h5 h4 fun v w' F' ρ' S1 K1 E1 Sl1 R1 hM1 => ?_
      obtain ⟨tm', h6, h7, _⟩ := Sl1.put R1 h3
      exact vcOps_out hT hE r tm' L' _ w' h6 ⟨F', ρ', S1, K1, E1, h7, by omega, by rw [put_defs]; exact hM1⟩ hK
    · rw [Sl.guard hg, if_neg (by simp)]
      obtain ⟨tm', h6, h7, _⟩ := Sl.put (.d (.v undef)) h
      exact ⟨fun _ _ => trivial, vcOps_out hT hE r tm' L _ w h6 ⟨F, ρ, S0, K0, En, h7, hk, by rw [put_defs]; exact hM⟩ hK⟩
end
end Go.Proofs.YtpnbpcdmiiakcaaDoor
/- A region that draws its order. No program is named here. -/
namespace Go.Proofs.YtpnbpcdmiiakcaaDoor
set_option linter.unusedSimpArgs false
set_option linter.unusedVariables false
open Go.RowKit
/-- A run in the order of the text, with what each operation did. -/
inductive Tr (P : Program) (N : Nat) (ol : List Oper) : List Oper → Tm → List AObj → List Ent → Tm → List AObj → Prop
  | nil {tm : Tm} {L : List AObj} : Tr P N ol [] tm L [] tm L
  | go {o : Oper} {r : List Oper} {tm tm1 tm2 : Tm} {L L1 L2 : List AObj} {e : Eff} {x : AV} {es : List Ent} (hg : guardIs ol o tm true) (hD : Does P o.op o.type L L.length (o.op.operands.toList.map (evAV tm)) e x)
      (hL : hp L1 = appN L.length e.news (appW e.ws (hp L))) (hle : L.length ≤ L1.length) (htm : ∀ j, lk tm1 j = if o.dst = some j then x else lk tm j) (h : Tr P N ol r tm1 L1 es tm2 L2) : Tr P N ol (o :: r) tm L (⟨e, L.length, x⟩ :: es) tm2 L2
  | skip {o : Oper} {r : List Oper} {tm tm1 tm2 : Tm} {L L2 : List AObj} {es : List Ent} (hg : guardIs ol o tm false) (htm : ∀ j, lk tm1 j = if o.dst = some j then skipAV else lk tm j) (h : Tr P N ol r tm1 L es tm2 L2) : Tr P N ol (o :: r) tm L (⟨e0, L.length, skipAV⟩ :: es) tm2 L2
theorem Tr.same {P : Program} {N : Nat} {ol l : List Oper} {tm tm0 tm' : Tm} {L L' : List AObj} {es : List Ent} (hs : SameTm tm tm0) (h : Tr P N ol l tm0 L es tm' L') (hl : l ≠ [] := by simp) : Tr P N ol l tm L es tm' L' := by
  cases h with
  | nil => exact absurd rfl hl
  | go hg hD hL hle htm h =>
    refine .go ?_ ?_ hL hle (fun j => by rw [htm j, hs j]) h
    · rcases hg with h | ⟨j, want, p, d, b, h1, h2, h3, h4, h5⟩
      · exact .inl h
      · exact .inr ⟨j, want, p, d, b, h1, h2, h3, by rw [← hs d]; exact h4, h5⟩
    · have : ∀ x, evAV tm x = evAV tm0 x := fun x => by cases x <;> first | exact (hs _).symm | rfl
      rw [funext this]; exact hD
  | skip hg htm h =>
    refine .skip ?_ (fun j => by rw [htm j, hs j]) h
    rcases hg with h | ⟨j, want, p, d, b, h1, h2, h3, h4, h5⟩
    · exact .inl h
    · exact .inr ⟨j, want, p, d, b, h1, h2, h3, by rw [← hs d]; exact h4, h5⟩
section
variable {P : Program} {w w' : World} {F F' : Nat → Prop} {ρ ρ' : Nat → Option Value} {L L' : List AObj} {T : TypeId → TI} {E : Nat → Bool} {N : Nat} {tm tm' : Tm} {a : Act} {ops : Array Oper}
theorem putK_out {dst : Option Tmp} {x : AV} {k : Tm → Prop} (hp : putK N dst x tm k) : ∃ tm', k tm' ∧ ∀ j, lk tm' j = if dst = some j then x else lk tm j := by
  unfold putK at hp
  split at hp
  · exact ⟨tm, hp, fun j => by simp⟩
  · split at hp
    · exact ⟨_, hp, fun j => by rw [lk_cons]; simp⟩
    · exact hp.elim
theorem drawOps_out (hT : T = tiOf P) (hE : ∀ g, E g = true → entersB P g = true) {ol : List Oper} {K : List Ent → Tm → List AObj → Prop} : ∀ {l : List Oper} {tm : Tm} {L : List AObj} {f : List Ent → List Ent}, drawOps P T E N ol l tm L f K →
    ∃ es tm' L', Tr P N ol l tm L es tm' L' ∧ K (f es) tm' L' ∧ L.length ≤ L'.length
  | [], tm, L, f, h => ⟨[], tm, L, .nil, h, Nat.le_refl _⟩
  | o :: r, tm, L, f, h => by
    have h : drawStep P T E N ol o (drawOps P T E N ol r) tm L f K := h
    unfold drawStep at h
    obtain ⟨tm0, hs, h⟩ := gvK_out h
    rcases h with ⟨hg, h⟩ | ⟨hg, h⟩
    · obtain ⟨e, x, h1, h2⟩ := opK_out hT hE h
      obtain ⟨L', h3, h4, h5⟩ := applyK_out (natK_iff.1 h1)
      obtain ⟨tm', h6, h7⟩ := putK_out h3
      obtain ⟨es, tm2, L2, h8, h9, h10⟩ := drawOps_out hT hE (l := r) h6
      exact ⟨_, _, _, .same hs (.go hg h2 h4 h5 h7 h8), h9, by omega⟩
    · obtain ⟨tm', h6, h7⟩ := putK_out (natK_iff.1 h)
      obtain ⟨es, tm2, L2, h8, h9, h10⟩ := drawOps_out hT hE (l := r) h6
      exact ⟨_, _, _, .same hs (.skip hg h7 h8), h9, h10⟩
/-- What stands at operation i. -/
theorem Tr.at_ {ol : List Oper} {l : List Oper} {tm tm' : Tm} {L L' : List AObj} {es : List Ent} (h : Tr P N ol l tm L es tm' L') : ∀ {i : Nat} {o : Oper}, l[i]? = some o →
    ∃ tmi Li x, Tr P N ol (l.take i) tm L (es.take i) tmi Li ∧ es[i]? = some x ∧ x.n = Li.length ∧ ((guardIs ol o tmi true ∧ Does P o.op o.type Li Li.length (o.op.operands.toList.map (evAV tmi)) x.e x.r) ∨ (guardIs ol o tmi false ∧ x.e = e0 ∧ x.r = skipAV)) := by
  induction h with
  | nil => intro i o h; simp at h
  | go hg hD hL hle htm h ih =>
    intro i o ho
    cases i with
    | zero => simp at ho; subst ho; exact ⟨_, _, _, .nil, rfl, rfl, .inl ⟨hg, hD⟩⟩
    | succ i =>
      obtain ⟨tmi, Li, x, h1, h2, h3, h4⟩ := ih (by simpa using ho)
      exact ⟨tmi, Li, x, by simpa using Tr.go hg hD hL hle htm h1, by simpa using h2, h3, h4⟩
  | skip hg htm h ih =>
    intro i o ho
    cases i with
    | zero => simp at ho; subst ho; exact ⟨_, _, _, .nil, rfl, rfl, .inr ⟨hg, rfl, rfl⟩⟩
    | succ i =>
      obtain ⟨tmi, Li, x, h1, h2, h3, h4⟩ := ih (by simpa using ho)
      exact ⟨tmi, Li, x, by simpa using Tr.skip hg htm h1, by simpa using h2, h3, h4⟩
theorem Tr.length {ol : List Oper} {l : List Oper} {tm tm' : Tm} {L L' : List AObj} {es : List Ent} (h : Tr P N ol l tm L es tm' L') : es.length = l.length := by
  induction h with
  | nil => rfl
  | go _ _ _ _ _ _ ih => simp [ih]
  | skip _ _ _ ih => simp [ih]
theorem Tr.heap {ol : List Oper} {l : List Oper} {tm tm' : Tm} {L L' : List AObj} {es : List Ent} (h : Tr P N ol l tm L es tm' L') : ∀ (i : Nat), hp L' = hS es i (fun _ => true) (hp L) := by
  induction h with
  | nil => intro i; rfl
  | go hg hD hL hle htm h ih => intro i; rw [ih (i + 1), hS, if_pos rfl, hL]; rfl
  | skip hg htm h ih => intro i; rw [ih (i + 1), hS, if_pos rfl]; rfl
theorem hS_take {k : Nat} : ∀ (es : List Ent) (i j : Nat) (H : Hp), hS (es.take i) j (fun _ => true) H k = hS es j (fun m => decide (m < j + i)) H k
  | [], i, j, H => by simp [hS]
  | x :: r, 0, j, H => by
    rw [List.take_zero]
    exact (hS_same (es := x :: r) (l := fun m => decide (m < j + 0)) (l' := fun _ => false) rfl (fun m y _ _ => by simp)).trans (by
      have nul : ∀ (es : List Ent) (i : Nat) (H : Hp), hS es i (fun _ => false) H = H := by
        intro es
        induction es with
        | nil => intro i H; rfl
        | cons z es ih => intro i H; rw [hS, if_neg (by simp), ih]
      rw [nul]; rfl) |>.symm
  | x :: r, i + 1, j, H => by
    rw [List.take_succ_cons, hS, hS, if_pos rfl, if_pos (by simp), hS_take r i (j + 1) _]
    refine hS_same rfl fun m y _ _ => ?_
    simp; omega
/-- What the operations up to now have written to a slot. -/
def lookE : List Oper → List Ent → Nat → Option AV
  | o :: os, x :: es, k => match o.dst with
    | some d => if d = k then some x.r else lookE os es k
    | none => lookE os es k
  | _, _, _ => none
theorem lookE_none : ∀ (os : List Oper) (es : List Ent) (k : Nat), (∀ o ∈ os, o.dst ≠ some k) → lookE os es k = none
  | [], _, _, _ => rfl
  | _ :: _, [], _, _ => rfl
  | o :: os, x :: es, k, h => by
    have h1 := h o (List.mem_cons_self ..)
    rw [lookE]
    cases hd : o.dst with
    | none => exact lookE_none os es k fun p hp => h p (List.mem_cons_of_mem _ hp)
    | some d =>
      simp only
      rw [if_neg (fun e => h1 (by rw [hd, e]))]
      exact lookE_none os es k fun p hp => h p (List.mem_cons_of_mem _ hp)
theorem Tr.slots {ol : List Oper} {l : List Oper} {tm tm' : Tm} {L L' : List AObj} {es : List Ent} (h : Tr P N ol l tm L es tm' L') : dstsOk l N = true → ∀ k, lk tm' k = match lookE l es k with | some r => r | none => lk tm k := by
  have one : ∀ {o : Oper} {r : List Oper} {tm tm1 : Tm} {tm2 : Tm} {x : Ent} {es : List Ent}, (∀ j, lk tm1 j = if o.dst = some j then x.r else lk tm j) → (dstsOk r N = true → ∀ k, lk tm2 k = match lookE r es k with | some r => r | none => lk tm1 k) → dstsOk (o :: r) N = true → ∀ k, lk tm2 k = match lookE (o :: r) (x :: es) k with | some r => r | none => lk tm k := by
    intro o r tm tm1 tm2 x es htm ih hd k
    simp only [dstsOk, Bool.and_eq_true] at hd
    rw [ih hd.2 k, lookE]
    cases hdst : o.dst with
    | none =>
      simp only
      have := htm k
      rw [hdst] at this
      simp at this
      rw [this]
    | some d =>
      simp only
      have h1 := hd.1
      rw [hdst] at h1
      simp only [Bool.and_eq_true, List.all_eq_true] at h1
      by_cases e : d = k
      · subst e
        rw [if_pos rfl, lookE_none r es d (fun p hp => by simpa using h1.2 p hp)]
        simp only
        have := htm d
        rw [hdst, if_pos rfl] at this
        exact this
      · rw [if_neg e]
        have := htm k
        rw [hdst, if_neg (fun c => e (by injection c))] at this
        rw [this]
  induction h with
  | nil => intro _ k; rfl
  | go hg hD hL hle htm h ih => intro hd k; exact one (x := ⟨_, _, _⟩) htm ih hd k
  | skip hg htm h ih => intro hd k; exact one (x := ⟨_, _, _⟩) htm ih hd k
/-- Both look at one place. -/
theorem look_both : ∀ (os : List Oper) (es : List Ent) (vs : List Value) (k : Nat), es.length = os.length → vs.length = os.length → (lookE os es k = none ∧ lookV os vs k = none) ∨ ∃ (j : Nat) (o : Oper) (x : Ent) (v : Value), os[j]? = some o ∧ o.dst = some k ∧ es[j]? = some x ∧ vs[j]? = some v ∧ lookE os es k = some x.r ∧ lookV os vs k = some v
  | [], _, _, _, _, _ => .inl ⟨rfl, rfl⟩
  | _ :: _, [], _, _, h, _ => by simp at h
  | _ :: _, _ :: _, [], _, _, h => by simp at h
  | o :: os, x :: es, v :: vs, k, h1, h2 => by
    have ih := look_both os es vs k (by simpa using h1) (by simpa using h2)
    have next : lookE (o :: os) (x :: es) k = lookE os es k → lookV (o :: os) (v :: vs) k = lookV os vs k → (lookE (o :: os) (x :: es) k = none ∧ lookV (o :: os) (v :: vs) k = none) ∨ ∃ (j : Nat) (o_1 : Oper) (x_1 : Ent) (v_1 : Value), (o :: os)[j]? = some o_1 ∧ o_1.dst = some k ∧ (x :: es)[j]? = some x_1 ∧ (v :: vs)[j]? = some v_1 ∧ lookE (o :: os) (x :: es) k = some x_1.r ∧ lookV (o :: os) (v :: vs) k = some v_1 := by
      intro e1 e2
      rw [e1, e2]
      rcases ih with h | ⟨j, p, y, u, q1, q2, q3, q4, q5, q6⟩
      · exact .inl h
      · exact .inr ⟨j + 1, p, y, u, by simpa using q1, q2, by simpa using q3, by simpa using q4, q5, q6⟩
    cases hd : o.dst with
    | none => exact next (by rw [lookE, hd]) (by rw [lookV, hd])
    | some d =>
      by_cases e : d = k
      · subst e
        exact .inr ⟨0, o, x, v, rfl, hd, rfl, rfl, by rw [lookE, hd]; simp, by rw [lookV, hd]; simp⟩
      · exact next (by rw [lookE, hd]; simp [e]) (by rw [lookV, hd]; simp [e])
/-- What drawn regions need of the checks. -/
theorem flow_operand (hok : flowOk ops = true) {i j : Nat} {o p : Oper} {k : Nat} (hi : ops[i]? = some o) (hj : ops[j]? = some p) (hd : p.dst = some k) (hlt : j < i) (hx : Operand.tmp k ∈ o.op.operands.toList) : ∃ e ∈ o.after, e.on = j ∧ Region.binds .any e = true := by
  have hil := (Array.getElem?_eq_some_iff.1 hi).1
  have hjl := (Array.getElem?_eq_some_iff.1 hj).1
  have h := List.all_eq_true.1 hok i (List.mem_range.2 hil)
  simp only [hi, Bool.and_eq_true] at h
  have h2 := List.all_eq_true.1 h.2 j (List.mem_range.2 hjl)
  simp only [hj, hd, Bool.and_eq_true, Bool.or_eq_true, Bool.not_eq_true'] at h2
  rcases h2.2 with h3 | h3
  · have h4 := Array.any_eq_false'.1 h3 (.tmp k) (by simpa using hx)
    simp at h4
  · rw [if_pos hlt] at h3
    obtain ⟨e, he, hb⟩ := Array.any_eq_true'.1 h3
    simp only [Bool.and_eq_true, beq_iff_eq] at hb
    exact ⟨e, he, hb.1, hb.2⟩
theorem flow_guard (hok : flowOk ops = true) {i g : Nat} {o : Oper} {b : Bool} (hi : ops[i]? = some o) (hg : o.guard = some (g, b)) : g < i ∧ ∃ e ∈ o.after, e.on = g ∧ Region.binds .any e = true := by
  have hil := (Array.getElem?_eq_some_iff.1 hi).1
  have h := List.all_eq_true.1 hok i (List.mem_range.2 hil)
  simp only [hi, Bool.and_eq_true, hg] at h
  obtain ⟨e, he, hb⟩ := Array.any_eq_true'.1 h.1.2
  simp only [Bool.and_eq_true, beq_iff_eq] at hb
  have h3 := Array.all_eq_true_iff_forall_mem.1 h.1.1.2 e he
  simp [hb.2, hb.1] at h3
  exact ⟨h3, e, he, hb.1, hb.2⟩
/-- **A region that draws its order.** -/
theorem draw_out {ro : Option Nat} {nF : Nat} {id : Nat} {es : List Ent} {Q : Exit → Act → World → Prop} (hm : P.follows .mixedOrders = true) (hreg : (flowOk ops && dstsOk ops.toList N && guardsOk ops && noDefer ops.toList) = true) (hTr : Tr P N ops.toList ops.toList tm L es tm' L') (hord : orderB ops.toList es = true)
    (En : Env F ρ (hp L) w) (Sl : Slots w F ρ N tm a) (hQ : ∀ a' w' F' ρ', Step F ρ (hp L) w F' ρ' (hp L') w' → Keep ρ ρ' → Env F' ρ' (hp L') w' → Slots w' F' ρ' N tm' a' → a'.defers = a.defers → Q .normal a' w') : (Code.region id ops true).wpIn (Fw ro) nF P Q a w := by
  rw [Bool.and_eq_true] at hreg
  obtain ⟨hreg, hnd⟩ := hreg
  have hreg' := hreg
  simp only [Bool.and_eq_true] at hreg'
  obtain ⟨⟨hok, hds⟩, hgd⟩ := hreg'
  have hN := Sl.2
  have hel : es.length = ops.size := by rw [hTr.length]; simp
  have masks : ∀ i j, ((ancMasks ops.toList []).getD j 0).testBit i = true → Anc ops i j := ancMasks_bit (fun j o h => by rw [List.length_nil, Nat.zero_add, ← Array.getElem?_toList]; exact h) fun i j h => by simp at h
  have confl : ∀ {i j : Nat} {x y : Ent}, i < j → es[i]? = some x → es[j]? = some y → conflict x y = true → Anc ops i j := fun {i j x y} hij hx hy hc => by
    have := pairsOk_get hord hij hx hy hc
    rw [Nat.zero_add, Nat.zero_add] at this
    exact masks _ _ this
  refine wpIn_mono (Q := fun e a w => match e with | .normal => Q .normal a w | _ => False) (wpIn_region_any hm (wpAnyIn_ro hnd (fun ⟨_, _, h⟩ => h) _ _ _ _ ?_)) (fun e a w h => by cases e <;> first | exact h | exact h.elim)
  refine any_flow (Γ := { vs : List Value // vs.length = ops.size } × (Nat → Option Value) × (Nat → Prop)) (by rw [hN]; exact hreg) (fun γ => γ.1.1)
    (fun l γ w' => Step F ρ (hp L) w γ.2.2 γ.2.1 (hS es 0 l (hp L)) w' ∧ Keep ρ γ.2.1 ∧ Env γ.2.2 γ.2.1 (hS es 0 l (hp L)) w' ∧ (∀ i x v, es[i]? = some x → γ.1.1[i]? = some v → l i = true → RA w' γ.2.2 γ.2.1 x.r v) ∧ ∀ i, i < ops.size → l i = false → γ.1.1[i]? = some undef)
    (fun γ => γ.1.2) ⟨⟨List.replicate ops.size undef, by simp⟩, ρ, F⟩ ?_ ?_ ?_
  · have nul : ∀ (es : List Ent) (i : Nat) (H : Hp), hS es i (fun _ => false) H = H := by
      intro es
      induction es with
      | nil => intro i H; rfl
      | cons z es ih => intro i H; rw [hS, if_neg (by simp), ih]
    refine ⟨?_, Keep.refl _, ?_, (fun i x v _ _ h => by cases h), fun i hi _ => by simp [hi]⟩
    · rw [nul]; exact Step.drew _ _ _ _
    · rw [nul]; exact En.drew
  · -- each operation
    have all : ∀ (i : Nat) (o : Oper), ops.toList[i]? = some o → Owes P ops (fun γ : { vs : List Value // vs.length = ops.size } × (Nat → Option Value) × (Nat → Prop) => γ.1.1) a (fun l γ w' => Step F ρ (hp L) w γ.2.2 γ.2.1 (hS es 0 l (hp L)) w' ∧ Keep ρ γ.2.1 ∧ Env γ.2.2 γ.2.1 (hS es 0 l (hp L)) w' ∧ (∀ i x v, es[i]? = some x → γ.1.1[i]? = some v → l i = true → RA w' γ.2.2 γ.2.1 x.r v) ∧ ∀ i, i < ops.size → l i = false → γ.1.1[i]? = some undef) i o := by
      intro i o ho l γ w1 hG hli hdeps hcl
      obtain ⟨⟨vs, hvl⟩, ρ1, F1⟩ := γ
      obtain ⟨S1, K1, E1, R1, U1⟩ := hG
      simp only at S1 K1 E1 R1 U1 ⊢
      have hi : ops[i]? = some o := by rw [← Array.getElem?_toList]; exact ho
      have hil := (Array.getElem?_eq_some_iff.1 hi).1
      obtain ⟨tmi, Li, x, hTi, hx, hxn, hdo⟩ := hTr.at_ ho
      have hds' := dstsOk_take ops.toList N i hds
      have hslots := hTi.slots hds'
      -- the heap as the text has it at i
      have hLi : ∀ k, hp Li k = hS es 0 (fun m => decide (m < i)) (hp L) k := fun k => by
        rw [hTi.heap 0, hS_take es i 0]; simp
      have agree : ∀ k, uses x k = true → hS es 0 l (hp L) k = hp Li k := by
        intro k hk
        rw [hLi]
        refine hS_same rfl fun j y hy ht => ?_
        rw [Nat.zero_add]
        rcases Nat.lt_trichotomy j i with q | q | q
        · rw [(confl q hy hx (conflict_of (.inl ⟨ht, hk⟩))).ready hcl hi hdeps]
          simp [q]
        · subst q; rw [hli]; simp
        · have han := confl q hx hy (conflict_of (.inr ⟨ht, hk⟩))
          have : l j = false := by
            cases hlj : l j with
            | false => rfl
            | true => rw [han.listed hcl hlj] at hli; cases hli
          rw [this]; simp; omega
      have after : hS es 0 (updL l i) (hp L) = Go.Proofs.YtpnbpcdmiiakcaaDoor.app x (hS es 0 l (hp L)) := by
        funext k
        cases ht : touches x k with
        | false =>
          rw [app_not ht]
          refine hS_same rfl fun j y hy hty => ?_
          rw [Nat.zero_add]
          unfold updL
          rw [if_neg]
          intro e
          subst e
          rw [hx] at hy; injection hy with hy; subst hy
          rw [ht] at hty; cases hty
        | true =>
          refine hS_last hx ht (by simp [updL]) fun m y hm' hy hty => ?_
          rw [Nat.zero_add]
          have han := confl hm' hx hy (conflict_of (.inl ⟨ht, by unfold uses; rw [hty]; rfl⟩))
          unfold updL
          rw [if_neg (by omega)]
          cases hlm : l m with
          | false => rfl
          | true => rw [han.listed hcl hlm] at hli; cases hli
      -- the operands
      have slot : ∀ k, (∀ j p, j < i → ops[j]? = some p → p.dst = some k → l j = true) → RA w1 F1 ρ1 (lk tmi k) (valOf (ops.toList.take i) vs a (.tmp k)) := by
        intro k hk
        rw [hslots k]
        have hb := look_both (ops.toList.take i) (es.take i) (vs.take i) k (by simp; omega) (by simp; omega)
        have hvt : ∀ (os : List Oper) (vs : List Value) (n k : Nat), os.length ≤ n → lookV os (vs.take n) k = lookV os vs k := by
          intro os
          induction os with
          | nil => intro vs n k _; rfl
          | cons o os ih =>
            intro vs n k hn
            cases n with
            | zero => simp at hn
            | succ n =>
              cases vs with
              | nil => rfl
              | cons v vs =>
                rw [List.take_succ_cons, lookV, lookV, ih vs n k (by simpa using hn)]
        rw [hvt _ _ _ _ (by simp; omega)] at hb
        simp only [valOf]
        rcases hb with ⟨h1, h2⟩ | ⟨j, p, y, u, h1, h2, h3, h4, h5, h6⟩
        · rw [h1, h2]
          exact S1.ra En K1 (Sl.1 k)
        · rw [h5, h6]
          have hji : j < i := by
            have := (List.getElem?_eq_some_iff.1 h1).1
            simp at this; omega
          rw [List.getElem?_take_of_lt hji] at h1 h3 h4
          refine R1 j y u h3 h4 (hk j p hji ?_ h2)
          rw [← Array.getElem?_toList]; exact h1
      have oper : ∀ y ∈ o.op.operands.toList, RA w1 F1 ρ1 (evAV tmi y) (valOf (ops.toList.take i) vs a y) := by
        intro y hy
        cases y with
        | tmp k =>
          refine slot k fun j p hj hp hd => ?_
          obtain ⟨e, he, h1, h2⟩ := flow_operand hok hi hp hd hj hy
          subst h1
          exact hdeps e he h2
        | const v => exact const_rep
        | global g => exact .d (.v _)
        | func f => exact .fn .nil .nil
      have want : ∀ g, guardIs ops.toList o tmi g → wantedV ops.toList vs o = g := by
        rintro g (⟨h1, rfl⟩ | ⟨j, want, p, d, b, h1, h2, h3, h4, rfl⟩)
        · simp [wantedV, h1]
        · obtain ⟨hji, e, he, h5, h6⟩ := flow_guard hok hi h1
          have hlj : l j = true := by rw [← h5]; exact hdeps e he h6
          have hjl : j < es.length := by omega
          have hvj : j < vs.length := by omega
          have hR := R1 j es[j] vs[j] (List.getElem?_eq_getElem hjl) (List.getElem?_eq_getElem hvj) hlj
          -- the entry of the guard is what stands in its slot
          have hle : lookE (ops.toList.take i) (es.take i) d = some es[j].r := by
            have hb := look_both (ops.toList.take i) (es.take i) (vs.take i) d (by simp; omega) (by simp; omega)
            rcases hb with ⟨g1, _⟩ | ⟨m, q, y, u, g1, g2, g3, g4, g5, g6⟩
            · have hv := lookV_at (ops.toList.take i) (vs.take i) N j p d hds' (by rw [List.getElem?_take_of_lt hji]; exact h2) h3
              have hb2 := look_both (ops.toList.take i) (es.take i) (vs.take i) d (by simp; omega) (by simp; omega)
              rcases hb2 with ⟨_, g2⟩ | ⟨_, _, _, _, _, _, _, _, g5, _⟩
              · rw [g2, List.getElem?_take_of_lt hji, List.getElem?_eq_getElem hvj] at hv; cases hv
              · rw [g1] at g5; cases g5
            · have hmj : m = j := by
                have hm1 : m < i := by have := (List.getElem?_eq_some_iff.1 g1).1; simp at this; omega
                rw [List.getElem?_take_of_lt hm1] at g1
                have uniq : ∀ (os : List Oper) (m j : Nat) (q p : Oper), dstsOk os N = true → os[m]? = some q → os[j]? = some p → q.dst = some d → p.dst = some d → m = j := by
                  intro os
                  induction os with
                  | nil => intro m j q p _ h; simp at h
                  | cons o os ih =>
                    intro m j q p hd hm hj hq hp
                    simp only [dstsOk, Bool.and_eq_true] at hd
                    have far : ∀ (m : Nat) (q : Oper), os[m]? = some q → q.dst = some d → o.dst = some d → False := by
                      intro m q hm hq ho
                      have h1 := hd.1
                      rw [ho] at h1
                      simp only [Bool.and_eq_true, List.all_eq_true] at h1
                      have := h1.2 q (List.mem_of_getElem? hm)
                      rw [hq] at this
                      simp at this
                    cases m with
                    | zero =>
                      cases j with
                      | zero => rfl
                      | succ j =>
                        simp at hm hj
                        subst hm
                        exact (far j p hj hp hq).elim
                    | succ m =>
                      cases j with
                      | zero =>
                        simp at hm hj
                        subst hj
                        exact (far m q hm hq hp).elim
                      | succ j => rw [ih m j q p hd.2 (by simpa using hm) (by simpa using hj) hq hp]
                exact uniq _ m j q p hds g1 h2 g2 h3
              subst hmj
              rw [List.getElem?_take_of_lt hji, List.getElem?_eq_getElem hjl] at g3
              injection g3 with g3
              rw [g5, g3]
          have h7 := hslots d
          rw [hle, h4] at h7
          simp only at h7
          rw [← h7] at hR
          have h8 := hR.v_out
          unfold wantedV
          rw [h1]
          simp only [List.getElem?_eq_getElem hvj, h8]
          cases b <;> first | rfl | (simp [boolOf]; done)
      rcases hdo with ⟨hg, hD⟩ | ⟨hg, hxe, hxr⟩
      · have hwt := want true hg
        have hr := hD o (hS es 0 l (hp L)) F1 ρ1 w1 (valOf (ops.toList.take i) vs a) rfl rfl E1 (fun k hk => by
            rw [agree k (by unfold uses; rw [Bool.or_eq_true]; right; rw [List.any_eq_true]; exact ⟨k, hk, by simp⟩)]; rfl)
          (fun k hk => by
            rw [agree _ (by unfold uses touches; rw [hxn]; simp [Nat.ble_eq, Nat.blt_eq]; left; right; omega)]
            exact List.getElem?_eq_none (by omega))
          (by
            have : ∀ (os : List Operand), (∀ y ∈ os, RA w1 F1 ρ1 (evAV tmi y) (valOf (ops.toList.take i) vs a y)) → RAs w1 F1 ρ1 (os.map (evAV tmi)) (os.map (valOf (ops.toList.take i) vs a)) := by
              intro os
              induction os with
              | nil => intro _; exact .nil
              | cons y os ih => intro h; exact .cons (h y (List.mem_cons_self ..)) (ih fun z hz => h z (List.mem_cons_of_mem _ hz))
            exact this _ oper)
        have post : ∀ v w2, Post F1 ρ1 (hS es 0 l (hp L)) w1 (appN Li.length x.e.news (appW x.e.ws (hS es 0 l (hp L)))) x.r v w2 →
            ∃ γ' : { vs : List Value // vs.length = ops.size } × (Nat → Option Value) × (Nat → Prop), SameV (fun γ : { vs : List Value // vs.length = ops.size } × (Nat → Option Value) × (Nat → Prop) => γ.1.1) l (⟨⟨vs, hvl⟩, ρ1, F1⟩) γ' ∧ (o.dst = none ∨ γ'.1.1[i]? = some v) ∧
              (Step F ρ (hp L) w γ'.2.2 γ'.2.1 (hS es 0 (updL l i) (hp L)) w2 ∧ Keep ρ γ'.2.1 ∧ Env γ'.2.2 γ'.2.1 (hS es 0 (updL l i) (hp L)) w2 ∧ (∀ j y u, es[j]? = some y → γ'.1.1[j]? = some u → updL l i j = true → RA w2 γ'.2.2 γ'.2.1 y.r u) ∧ ∀ j, j < ops.size → updL l i j = false → γ'.1.1[j]? = some undef) := by
          rintro v w2 ⟨F2, ρ2, S2, K2, E2, R2⟩
          have hH : appN Li.length x.e.news (appW x.e.ws (hS es 0 l (hp L))) = hS es 0 (updL l i) (hp L) := by
            rw [after, ← hxn]; rfl
          rw [hH] at S2 E2
          refine ⟨⟨⟨vs.set i v, by simp [hvl]⟩, ρ2, F2⟩, ?_, .inr (List.getElem?_set_self (by omega)), S1.trans S2, K1.trans K2, E2, fun j y u hy hu hlj => ?_, fun j hj hlj => ?_⟩
          · exact SameV.set v hli rfl
          · by_cases e : j = i
            · subst e
              rw [hx] at hy; injection hy with hy; subst hy
              simp only at hu
              rw [List.getElem?_set_self (by omega)] at hu
              injection hu with hu
              rw [← hu]; exact R2
            · have hlj' : l j = true := by unfold updL at hlj; rw [if_neg e] at hlj; exact hlj
              simp only at hu
              rw [List.getElem?_set_ne (Ne.symm e)] at hu
              exact S2.ra E1 K2 (R1 j y u hy hu hlj')
          · have hne : j ≠ i := fun e => by subst e; simp [updL] at hlj
            have hlj' : l j = false := by unfold updL at hlj; rw [if_neg hne] at hlj; exact hlj
            simp only
            rw [List.getElem?_set_ne (Ne.symm hne)]
            exact U1 j hj hlj'
        unfold StepV
        simp only
        rw [if_pos hwt]
        unfold Runs at hr
        split at hr
        · rename_i v w2 hrun
          obtain ⟨γ', h1, h2, h3⟩ := post v w2 hr
          exact .inl ⟨v, w2, γ', hrun, h1, h2, h3⟩
        · rename_i w2 hrun
          obtain ⟨γ', h1, h2, h3⟩ := post undef w2 hr
          exact .inr (.inl ⟨w2, γ', hrun, h1, h2, h3⟩)
        · rename_i f args w2 hrun
          refine .inr (.inr ⟨f, args, w2, hrun, hr.mono ?_⟩)
          rintro en w3 ⟨v, rfl, hp⟩
          obtain ⟨γ', h1, h2, h3⟩ := post v w3 hp
          exact ⟨v, γ', rfl, h1, h2, h3⟩
        · exact hr.elim
      · have hwt := want false hg
        have hself : hS es 0 (updL l i) (hp L) = hS es 0 l (hp L) := by
          rw [after]
          unfold Go.Proofs.YtpnbpcdmiiakcaaDoor.app
          rw [hxe]; rfl
        unfold StepV
        simp only
        rw [if_neg (by rw [hwt]; simp)]
        refine ⟨.inr (U1 i hil hli), by rw [hself]; exact S1, K1, by rw [hself]; exact E1, fun j y u hy hu hlj => ?_, fun j hj hlj => ?_⟩
        · by_cases e : j = i
          · subst e
            rw [hx] at hy; injection hy with hy; subst hy
            have hu : vs[j]? = some u := hu
            rw [U1 j hil hli] at hu
            injection hu with hu
            rw [hxr, ← hu]; exact .d (.v undef)
          · exact R1 j y u hy hu (by unfold updL at hlj; rw [if_neg e] at hlj; exact hlj)
        · have hne : j ≠ i := fun e => by subst e; simp [updL] at hlj
          exact U1 j hj (by unfold updL at hlj; rw [if_neg hne] at hlj; exact hlj)
    have stepsAll : ∀ (os : List Oper) (n : Nat), (∀ (i : Nat) (o : Oper), os[i]? = some o → ops.toList[n + i]? = some o) → ∀ p : Nat → Oper → Prop, (∀ (i : Nat) (o : Oper), ops.toList[i]? = some o → p i o) → StepsAll p n os := by
      intro os
      induction os with
      | nil => intro n _ p _; trivial
      | cons o os ih => intro n h p hp; exact ⟨hp n o (by simpa using h 0 o rfl), ih (n + 1) (fun i q hq => by have := h (i + 1) q (by simpa using hq); rwa [show n + (i + 1) = n + 1 + i by omega] at this) p hp⟩
    exact stepsAll ops.toList 0 (fun i o h => by rwa [Nat.zero_add]) _ all
  · rintro l ⟨⟨vs, hvl⟩, ρ1, F1⟩ w1 hl ⟨S1, K1, E1, R1, _⟩
    simp only at S1 K1 E1 R1 ⊢
    have hheap : hS es 0 l (hp L) = hp L' := by
      rw [hTr.heap 0]
      funext k
      exact hS_same rfl fun j y hy _ => by rw [Nat.zero_add, hl j (by have := (List.getElem?_eq_some_iff.1 hy).1; omega)]
    rw [hheap] at S1 E1
    refine hQ _ w1 F1 ρ1 S1 K1 E1 ⟨fun k => ?_, by rw [(putAll_defs _ _ _).2]; exact hN⟩ (putAll_defs _ _ _).1
    rw [hTr.slots hds k]
    have hb := look_both ops.toList es vs k (by simp; omega) (by simp; omega)
    have hpl := putAll_look ops.toList vs a k (by rw [hN]; exact hds)
    rw [Array.getD_eq_getD_getElem?, hpl]
    rcases hb with ⟨h1, h2⟩ | ⟨j, p, y, u, h1, h2, h3, h4, h5, h6⟩
    · rw [h1, h2]
      have := Sl.1 k
      rw [Array.getD_eq_getD_getElem?] at this
      exact S1.ra En K1 this
    · rw [h5, h6]
      exact R1 j y u h3 h4 (hl j (by have := (List.getElem?_eq_some_iff.1 h3).1; omega))
end
end Go.Proofs.YtpnbpcdmiiakcaaDoor
