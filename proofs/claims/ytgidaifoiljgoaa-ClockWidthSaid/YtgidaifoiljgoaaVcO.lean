/- Code and functions in abstract values. No program is named here. -/
import Derived.Test.YtgidaifoiljgoaaVcN
namespace Go.Proofs.Ytgidaifoiljgoaa
set_option linter.unusedSimpArgs false
set_option linter.unusedVariables false
open Go.RowKit
/-! ### less may be known -/
def deadB : List AObj → Nat → Bool
  | [], _ => true
  | .dead :: _, 0 => true
  | _ :: _, 0 => false
  | _ :: r, n + 1 => deadB r n
/-- An object that comes from nowhere: a nil slice. -/
def lateK : List AObj → List AObj → Nat → Prop
  | _ :: L, _ :: L', k + 1 => lateK L L' k
  | [], .sl _ [] :: _, 0 => True
  | [], _ :: L', k + 1 => lateK [] L' k
  | _, _, _ => False
/-- What is known as y may be known as x only: nothing, or the same; or a slice of the call's own is data from now on. -/
def wkA (L L' : List AObj) (y x : AV) : Prop :=
  match x with
  | .any => True
  | .d (.sl s rows) => fAV y fun y => match y with
    | .own i => deadB L' i = true ∧ getOK L i fun ob => ob = .sl s rows
    | y => y = .d (.sl s rows)
  | .own k => fAV y fun y => match y with
    | .own i => eqK i k True
    | .d (.v (.slice none 0 0)) => lateK L L' k
    | _ => False
  | x => fAV y fun y => y = x
def wkAs (L L' : List AObj) : List AV → List AV → Prop
  | [], [] => True
  | y :: ys, x :: xs => wkA L L' y x ∧ wkAs L L' ys xs
  | _, _ => False
def wkT (L L' : List AObj) (tm : Tm) : Tm → Prop
  | [] => True
  | (s, x) :: r => wkA L L' (lk tm s) x ∧ wkT L L' tm r
def wkO (L L' : List AObj) (o o' : AObj) : Prop :=
  match o' with
  | .dead => True
  | .cells cs' => fO o fun o => match o with
    | .cells cs => wkAs L L' cs cs'
    | _ => False
  | o' => fO o fun o => o = o'
def wkL (L L' : List AObj) : List AObj → List AObj → Prop
  | _, [] => True
  | o :: r, o' :: r' => wkO L L' o o' ∧ wkL L L' r r'
  | [], .sl _ [] :: r' => wkL L L' [] r'
  | [], .dead :: r' => wkL L L' [] r'
  | [], _ :: _ => False
def tmLt (m : Nat) : Tm → Bool
  | [] => true
  | (_, x) :: r => AV.lt m x && tmLt m r
def Weak0 (k0 : Nat) (tm : Tm) (L : List AObj) (tm' : Tm) (L' : List AObj) : Prop :=
  (Nat.ble k0 L'.length && tmLt L'.length tm' && AObj.lts L'.length L') = true ∧ wkT L L' tm tm' ∧ wkL L L' L L'
/-- Two objects change their names. -/
def swN (a b j : Nat) : Nat := match Nat.beq j a with
  | true => b
  | false => match Nat.beq j b with
    | true => a
    | false => j
def setO (o : AObj) : Nat → List AObj → List AObj
  | _, [] => []
  | 0, _ :: r => o :: r
  | n + 1, x :: r => x :: setO o n r
def getO (L : List AObj) (n : Nat) : AObj := (L[n]?).getD .dead
def swL (a b : Nat) (L : List AObj) : List AObj := AObj.rns (swN a b) (setO (getO L a) b (setO (getO L b) a L))
def rnT (f : Nat → Nat) : Tm → Tm
  | [] => []
  | (s, x) :: r => (s, x.rn f) :: rnT f r
/-- An object goes on at a new place. -/
def mvN (a b j : Nat) : Nat := match Nat.beq j a with
  | true => b
  | false => j
def mvL (a : Nat) (L : List AObj) : List AObj := AObj.rns (mvN a L.length) (setO .dead a L ++ [getO L a])
/-- Objects from m on are forgotten. -/
def cutN (m i : Nat) (x : AV) : AV := match Nat.blt i m with
  | true => x
  | false => .any
mutual
def AV.cut (m : Nat) : AV → AV
  | .d x => .d x
  | .ptr i o => cutN m i (.ptr i o)
  | .own i => cutN m i (.own i)
  | .ep i s q g => cutN m i (.ep i s q g)
  | .fp xs => .fp xs
  | .agg xs => .agg (AV.cuts m xs)
  | .tup xs => .tup (AV.cuts m xs)
  | .fn g a b => .fn g (AV.cuts m a) (AV.cuts m b)
  | .mp i => cutN m i (.mp i)
  | .any => .any
def AV.cuts (m : Nat) : List AV → List AV
  | [] => []
  | x :: r => AV.cut m x :: AV.cuts m r
end
def AObj.cut (m : Nat) : AObj → AObj
  | .cells cs => .cells (AV.cuts m cs)
  | o => o
def cutL (m : Nat) : Nat → List AObj → List AObj
  | 0, _ => []
  | _, [] => []
  | n + 1, o :: r => o.cut m :: cutL m n r
def cutT (m : Nat) : Tm → Tm
  | [] => []
  | (s, x) :: r => (s, x.cut m) :: cutT m r
def swOk (k0 a b : Nat) (L : List AObj) : Bool := Nat.ble k0 a && Nat.ble k0 b && Nat.blt a L.length && Nat.blt b L.length
def WeakS (k0 : Nat) (tm : Tm) (L : List AObj) (tm' : Tm) (L' : List AObj) : List (Nat × Nat) → Prop
  | [] => Weak0 k0 tm L tm' L'
  | (a, b) :: r => match Nat.beq b L.length with
    | true => Nat.blt a L.length = true ∧ WeakS k0 (rnT (mvN a b) tm) (mvL a L) tm' L' r
    | false => match Nat.beq a b with
      | true => (Nat.ble k0 a && Nat.ble a L.length) = true ∧ WeakS k0 (cutT a tm) (cutL a a L) tm' L' r
      | false => swOk k0 a b L = true ∧ WeakS k0 (rnT (swN a b) tm) (swL a b L) tm' L' r
/-- .. and less is known; some objects have changed their names before. -/
def Weak (k0 : Nat) (tm : Tm) (L : List AObj) (tm' : Tm) (L' : List AObj) : Prop := ∃ sw, WeakS k0 tm L tm' L' sw
section
variable {P : Program} {w w' : World} {F F' : Nat → Prop} {ρ ρ' : Nat → Option Value} {L L' : List AObj} {T : TypeId → TI} {E : Nat → Bool} {N : Nat} {tm tm' : Tm} {a : Act} {ops : Array Oper}
mutual
theorem RA.low {m : Nat} (hρ : ∀ j h, j < m → ρ j = some h → ρ' j = some h) : ∀ (x : AV) {v : Value}, AV.lt m x = true → RA w F ρ x v → RA w F ρ' x v
  | .d x, v, _, h => by cases h with | d h => exact .d h
  | .ptr i o, v, l, h => by cases h with | ptr h => exact .ptr (hρ _ _ (by simpa [AV.lt, Nat.blt, Nat.succ_le_iff] using l) h)
  | .own i, v, l, h => by cases h with | own h => exact .own (hρ _ _ (by simpa [AV.lt, Nat.blt, Nat.succ_le_iff] using l) h)
  | .ep i s q g, v, l, h => by cases h with | ep h => exact .ep (hρ _ _ (by simpa [AV.lt, Nat.blt, Nat.succ_le_iff] using l) h)
  | .fp xs, v, _, h => by cases h with | fp hb h hc => exact .fp hb h hc
  | .agg xs, v, l, h => by cases h with | agg h h1 => exact .agg (RAs.low hρ xs (by simpa [AV.lt] using l) h) h1
  | .tup xs, v, l, h => by cases h with | tup h => exact .tup (RAs.low hρ xs (by simpa [AV.lt] using l) h)
  | .fn g a b, v, l, h => by simp [AV.lt] at l; cases h with | fn h h' => exact .fn (RAs.low hρ a l.1 h) (RAs.low hρ b l.2 h')
  | .mp i, v, l, h => by cases h with | mp h => exact .mp (hρ _ _ (by simpa [AV.lt, Nat.blt, Nat.succ_le_iff] using l) h)
  | .any, v, _, _ => .any v
theorem RAs.low {m : Nat} (hρ : ∀ j h, j < m → ρ j = some h → ρ' j = some h) : ∀ (xs : List AV) {vs : List Value}, AV.lts m xs = true → RAs w F ρ xs vs → RAs w F ρ' xs vs
  | [], vs, _, h => by cases h; exact .nil
  | x :: r, vs, l, h => by simp [AV.lts] at l; cases h with | cons h hr => exact .cons (RA.low hρ x l.1 h) (RAs.low hρ r l.2 hr)
end
theorem deadB_out : ∀ {l : List AObj} {i : Nat}, deadB l i = true → ∀ {o : AObj}, l[i]? = some o → o.live = false
  | [], _, _, o, h => by simp at h
  | .dead :: _, 0, _, o, h => by simp at h; subst h; rfl
  | .cells _ :: _, 0, hd, o, _ => by simp [deadB] at hd
  | .row _ :: _, 0, hd, o, _ => by simp [deadB] at hd
  | .sl _ _ :: _, 0, hd, o, _ => by simp [deadB] at hd
  | .obj _ :: _, 0, hd, o, _ => by simp [deadB] at hd
  | x :: r, i + 1, hd, o, h => deadB_out (l := r) (i := i) (by cases x <;> simpa [deadB] using hd) (by simpa using h)
theorem wkL_out : ∀ {l l' : List AObj}, wkL L L' l l' → ∀ (i : Nat) (o' : AObj), l'[i]? = some o' → (∃ o : AObj, l[i]? = some o ∧ wkO L L' o o') ∨ (l.length ≤ i ∧ ((∃ s, o' = .sl s []) ∨ o' = .dead))
  | _, [], _, i, o', h => by simp at h
  | [], .sl s [] :: r', h, 0, x, hx => by simp at hx; subst hx; exact .inr ⟨Nat.zero_le _, .inl ⟨s, rfl⟩⟩
  | [], .dead :: r', h, 0, x, hx => by simp at hx; subst hx; exact .inr ⟨Nat.zero_le _, .inr rfl⟩
  | [], .sl s [] :: r', h, i + 1, x, hx => (wkL_out (l := []) (l' := r') h i x (by simpa using hx)).elim (fun ⟨o, e, _⟩ => by simp at e) fun q => .inr ⟨Nat.zero_le _, q.2⟩
  | [], .dead :: r', h, i + 1, x, hx => (wkL_out (l := []) (l' := r') h i x (by simpa using hx)).elim (fun ⟨o, e, _⟩ => by simp at e) fun q => .inr ⟨Nat.zero_le _, q.2⟩
  | [], .sl s (q :: qs) :: r', h, _, _, _ => by simp [wkL] at h
  | [], .cells _ :: r', h, _, _, _ => by simp [wkL] at h
  | [], .row _ :: r', h, _, _, _ => by simp [wkL] at h
  | [], .obj _ :: r', h, _, _, _ => by simp [wkL] at h
  | o :: r, o' :: r', h, i, x, hx => by
    cases i with
    | zero => simp at hx; subst hx; exact .inl ⟨o, rfl, h.1⟩
    | succ i => exact (wkL_out (l := r) (l' := r') h.2 i x (by simpa using hx)).elim (fun ⟨o, e, q⟩ => .inl ⟨o, by simpa using e, q⟩) fun q => .inr ⟨by simp; omega, q.2⟩
theorem lateK_out : ∀ {L L' : List AObj} {k : Nat}, lateK L L' k → L.length ≤ k ∧ ∃ s, L'[k]? = some (.sl s [])
  | _ :: L, _ :: L', k + 1, h => by
    obtain ⟨h1, s, h2⟩ := lateK_out (L := L) (L' := L') (k := k) h
    exact ⟨by simp; exact h1, s, by simpa using h2⟩
  | [], .sl s [] :: _, 0, _ => ⟨Nat.zero_le _, s, rfl⟩
  | [], _ :: L', k + 1, h => by
    obtain ⟨_, s, h2⟩ := lateK_out (L := []) (L' := L') (k := k) (by simpa [lateK] using h)
    exact ⟨Nat.zero_le _, s, by simpa using h2⟩
  | [], [], _, h => by simp [lateK] at h
  | _ :: _, [], 0, h => by simp [lateK] at h
  | _ :: _, [], _ + 1, h => by simp [lateK] at h
  | _ :: _, _ :: _, 0, h => by simp [lateK] at h
  | [], .dead :: _, 0, h => by simp [lateK] at h
  | [], .cells _ :: _, 0, h => by simp [lateK] at h
  | [], .row _ :: _, 0, h => by simp [lateK] at h
  | [], .obj _ :: _, 0, h => by simp [lateK] at h
  | [], .sl _ (_ :: _) :: _, 0, h => by simp [lateK] at h
/-- The blocks that turn to data. -/
def frz (ρ : Nat → Option Value) (L L' : List AObj) (b : Nat) : Prop := ∃ i s rows h, L[i]? = some (.sl s rows) ∧ deadB L' i = true ∧ ρ i = some h ∧ blkOf h = some b
def rlow (ρ : Nat → Option Value) (n m : Nat) : Nat → Option Value := fun i => if i < m then (if i < n then ρ i else some (.slice none 0 0)) else none
theorem wkA_out (En : Env F ρ (hp L) w) {y x : AV} {v : Value} (h : wkA L L' y x) (hl : AV.lt L'.length x = true) (hv : RA w F ρ y v) : RA w (fun b => F b ∨ frz ρ L L' b) (rlow ρ L.length L'.length) x v := by
  have low : ∀ {x : AV}, AV.lt L'.length x = true → RA w F ρ x v → RA w (fun b => F b ∨ frz ρ L L' b) (rlow ρ L.length L'.length) x v := fun {x} hl hv => by
    have := RA.low (ρ' := rlow ρ L.length L'.length) (m := L'.length) (fun j h hj hk => by
      unfold rlow
      rw [if_pos hj]
      rcases Nat.lt_or_ge j L.length with q | q
      · rw [if_pos q]; exact hk
      · rw [En.abs j (List.getElem?_eq_none q)] at hk; cases hk) x hl hv
    exact this.mono (fun _ _ => rfl) (fun _ h => .inl h) (fun _ _ h => h)
  unfold wkA at h
  split at h
  · exact .any v
  · rename_i s rows
    have h := fAV_iff.1 h
    split at h
    · rename_i i _
      obtain ⟨hd, h⟩ := h
      obtain ⟨ob, hob, e⟩ := getOK_out h
      subst e
      cases hv with | own hv =>
        rename_i A n c
        obtain ⟨hh, e1, ⟨vs, how, hra, hs⟩, e3⟩ := En.rep i _ hob rfl
        rw [hv] at e1; injection e1 with e1; subst e1
        obtain ⟨A', c', he, h1, h2, hrd⟩ := how.form
        injection he with q1 q2 q3
        subst q1 q2 q3
        refine .d (.sl rfl hs h1 h2 (hra.mono (fun _ _ => rfl) fun _ h => .inl h) fun hp => ?_)
        have hsz : vs.length = rows.length * s := hrd.1
        rcases Nat.eq_zero_or_pos s with hs0 | hs0
        · have hvs : vs = [] := List.eq_nil_of_length_eq_zero (by rw [hsz, hs0]; simp)
          subst hvs
          obtain ⟨g, off, cap, he, _⟩ := how.open_ hp
          injection he with q1 _ _
          subst q1
          exact ⟨g, off, rfl, .inr ⟨i, s, rows, _, hob, hd, hv, rfl⟩, fun j hj => by simp at hj⟩
        · obtain ⟨b, off, rfl, hb, hc⟩ := hrd.2 hp
          exact ⟨b, off, rfl, .inr ⟨i, s, rows, _, hob, hd, hv, rfl⟩, hc⟩
    · subst h; exact low hl hv
  · rename_i k
    have h := fAV_iff.1 h
    split at h
    · obtain ⟨rfl, _⟩ := eqK_out h; exact low hl hv
    · obtain ⟨h1, s, h2⟩ := lateK_out h
      have := hv.v_out
      subst this
      refine .own ?_
      unfold rlow
      rw [if_pos (List.getElem?_eq_some_iff.1 h2).1, if_neg (by omega)]
    · exact h.elim
  · have h := fAV_iff.1 h
    subst h; exact low hl hv
theorem wkAs_out (En : Env F ρ (hp L) w) : ∀ {ys xs : List AV} {vs : List Value}, wkAs L L' ys xs → AV.lts L'.length xs = true → RAs w F ρ ys vs → RAs w (fun b => F b ∨ frz ρ L L' b) (rlow ρ L.length L'.length) xs vs
  | [], [], _, _, _, h => by cases h; exact .nil
  | _ :: _, x :: xs, _, h, hl, hv => by
    simp [AV.lts] at hl
    cases hv with | cons hv hr => exact .cons (wkA_out En h.1 hl.1 hv) (wkAs_out En h.2 hl.2 hr)
  | [], _ :: _, _, h, _, _ => h.elim
  | _ :: _, [], _, h, _, _ => h.elim
theorem Env.weak (En : Env F ρ (hp L) w) (hle : AObj.lts L'.length L' = true) (h : wkL L L' L L') :
    Step F ρ (hp L) w (fun b => F b ∨ frz ρ L L' b) (rlow ρ L.length L'.length) (hp L') w ∧ Env (fun b => F b ∨ frz ρ L L' b) (rlow ρ L.length L'.length) (hp L') w := by
  have hget := wkL_out h
  -- an object of the new heap is an old one, or a nil slice
  have live : ∀ i o', L'[i]? = some o' → o'.live = true → (∃ o, L[i]? = some o ∧ wkO L L' o o' ∧ o.live = true ∧ i < L'.length ∧ i < L.length) ∨ (L.length ≤ i ∧ i < L'.length ∧ ∃ s, o' = .sl s []) := by
    intro i o' hi hl
    have hil := (List.getElem?_eq_some_iff.1 hi).1
    rcases hget i o' hi with ⟨o, h1, h2⟩ | ⟨h1, h2⟩
    · refine .inl ⟨o, h1, h2, ?_, hil, (List.getElem?_eq_some_iff.1 h1).1⟩
      unfold wkO at h2
      split at h2
      · cases hl
      · have h2 := fO_iff.1 h2
        split at h2
        · rfl
        · exact h2.elim
      · have h2 := fO_iff.1 h2
        subst h2; exact hl
    · rcases h2 with h2 | h2
      · exact .inr ⟨h1, hil, h2⟩
      · subst h2; cases hl
  have fb : ∀ b, frz ρ L L' b → b < w.heap.size ∧ Lv ρ (hp L) b := by
    rintro b ⟨i, s, rows, hh, h1, _, h3, h4⟩
    obtain ⟨h0, e1, _, e3⟩ := En.rep i _ h1 rfl
    rw [h3] at e1; injection e1 with e1; subst e1
    exact ⟨(e3 b h4).1, ⟨i, _, hh, h1, rfl, h3, h4⟩⟩
  have rl : ∀ i h, i < L.length → rlow ρ L.length L'.length i = some h → ρ i = some h := by
    intro i h hil hi
    unfold rlow at hi
    by_cases q : i < L'.length
    · rw [if_pos q, if_pos hil] at hi; exact hi
    · rw [if_neg q] at hi; cases hi
  have rn : ∀ i h, L.length ≤ i → rlow ρ L.length L'.length i = some h → blkOf h = none := by
    intro i h hil hi
    unfold rlow at hi
    by_cases q : i < L'.length
    · rw [if_pos q, if_neg (by omega)] at hi; injection hi with hi; subst hi; rfl
    · rw [if_neg q] at hi; cases hi
  refine ⟨⟨rfl, rfl, rfl, Nat.le_refl _, fun _ _ _ => rfl, fun _ h => .inl h, fun b hb => hb.elim .inl fun q => .inr (.inr (fb b q).2), fun b ⟨i, o', hh, h1, h2, h3, h4⟩ => ?_⟩, fun b hb => hb.elim (En.fb b) fun q => (fb b q).1, fun i hi => ?_, fun i o' hi hl => ?_, fun i j o o' hh hh' b e1 e2 l1 l2 r1 r2 b1 b2 => ?_⟩
  · rcases live i o' h1 h2 with ⟨o, q1, _, q3, _, q5⟩ | ⟨q1, _⟩
    · exact .inr ⟨i, o, hh, q1, q3, rl i hh q5 h3, h4⟩
    · rw [rn i hh q1 h3] at h4; cases h4
  · have := List.getElem?_eq_none_iff.1 hi
    unfold rlow
    rw [if_neg (by omega)]
  · rcases live i o' hi hl with ⟨o, q1, q2, q3, q4, q5⟩ | ⟨q1, q4, s, rfl⟩
    · obtain ⟨hh, e1, e2, e3⟩ := En.rep i o q1 q3
      refine ⟨hh, by unfold rlow; rw [if_pos q4, if_pos q5]; exact e1, ?_, fun b hb => ⟨(e3 b hb).1, fun q => q.elim (e3 b hb).2 ?_⟩⟩
      · unfold wkO at q2
        split at q2
        · trivial
        · rename_i cs'
          have q2 := fO_iff.1 q2
          split at q2
          · rename_i cs
            obtain ⟨b, t, vs, g1, g2, g3, g4⟩ := e2
            exact ⟨b, t, vs, g1, g2, wkAs_out En q2 (AObj.lts_get hle hi) g3, g4⟩
          · exact q2.elim
        · have q2 := fO_iff.1 q2
          subst q2
          have hk : ∀ cs, o ≠ .cells cs := fun cs e => by subst e; rename_i _ hne; exact hne cs rfl
          cases o with
          | cells cs => exact absurd rfl (hk cs)
          | dead => trivial
          | row xs => obtain ⟨b, t, vs, g1, g2, g3⟩ := e2; exact ⟨b, t, vs, g1, g2, g3.mono (fun _ _ => rfl) fun _ h => .inl h⟩
          | sl s rows => obtain ⟨vs, g1, g2, g3⟩ := e2; exact ⟨vs, g1, g2.mono (fun _ _ => rfl) fun _ h => .inl h, g3⟩
          | obj p => exact e2
      · rintro ⟨j, s, rows, h2, f1, f2, f3, f4⟩
        have : i = j := En.inj i j o _ hh h2 b q1 f1 q3 rfl e1 f3 hb f4
        subst this
        rw [deadB_out f2 hi] at hl; cases hl
    · exact ⟨.slice none 0 0, by unfold rlow; rw [if_pos q4, if_neg (by omega)], ⟨[], Ow.nil w 0 0 s, .nil, fun r hr => by simp at hr⟩, fun b hb => by cases hb⟩
  · rcases live i o e1 l1 with ⟨o2, q1, _, q3, _, q5⟩ | ⟨q1, _⟩
    · rcases live j o' e2 l2 with ⟨o3, g1, _, g3, _, g5⟩ | ⟨g1, _⟩
      · exact En.inj i j o2 o3 hh hh' b q1 g1 q3 g3 (rl _ _ q5 r1) (rl _ _ g5 r2) b1 b2
      · rw [rn j hh' g1 r2] at b2; cases b2
    · rw [rn i hh q1 r1] at b1; cases b1
theorem tmLt_lk {m : Nat} : ∀ {tm : Tm}, tmLt m tm = true → ∀ k, AV.lt m (lk tm k) = true
  | [], _, k => rfl
  | (s, x) :: r, h, k => by
    simp only [tmLt, Bool.and_eq_true] at h
    rw [lk_cons]
    split
    · exact h.1
    · exact tmLt_lk h.2 k
theorem wkT_lk : ∀ {tm' : Tm}, wkT L L' tm tm' → ∀ k, wkA L L' (lk tm k) (lk tm' k)
  | [], _, k => trivial
  | (s, x) :: r, h, k => by
    rw [lk_cons]
    split
    · rename_i e; subst e; exact h.1
    · exact wkT_lk h.2 k
variable {F0 : Nat → Prop} {ρ0 : Nat → Option Value} {H0 : Hp} {w0 : World} {k0 : Nat}
theorem swN_a {a b : Nat} : swN a b a = b := by unfold swN; rw [show Nat.beq a a = true by simp]
theorem swN_b {a b : Nat} : swN a b b = a := by
  unfold swN
  split
  · rename_i h; exact Nat.eq_of_beq_eq_true h
  · rw [show Nat.beq b b = true by simp]
theorem swN_ne {a b j : Nat} (h1 : j ≠ a) (h2 : j ≠ b) : swN a b j = j := by
  unfold swN
  split
  · rename_i h; exact absurd (Nat.eq_of_beq_eq_true h) h1
  · split
    · rename_i h; exact absurd (Nat.eq_of_beq_eq_true h) h2
    · rfl
theorem swN_two {a b j : Nat} : swN a b (swN a b j) = j := by
  by_cases h1 : j = a
  · subst h1; rw [swN_a, swN_b]
  · by_cases h2 : j = b
    · subst h2; rw [swN_b, swN_a]
    · rw [swN_ne h1 h2, swN_ne h1 h2]
theorem setO_length {o : AObj} : ∀ {n : Nat} {l : List AObj}, (setO o n l).length = l.length
  | _, [] => by simp [setO]
  | 0, _ :: r => rfl
  | n + 1, x :: r => by simp [setO, setO_length (n := n) (l := r)]
theorem setO_same {o : AObj} : ∀ {n : Nat} {l : List AObj}, n < l.length → (setO o n l)[n]? = some o
  | _, [], h => by simp at h
  | 0, _ :: r, _ => rfl
  | n + 1, x :: r, h => by simpa [setO] using setO_same (n := n) (l := r) (by simpa using h)
theorem setO_ne {o : AObj} : ∀ {n : Nat} {l : List AObj} {j : Nat}, j ≠ n → (setO o n l)[j]? = l[j]?
  | _, [], _, _ => by simp [setO]
  | 0, _ :: r, 0, h => absurd rfl h
  | 0, _ :: r, j + 1, _ => by simp [setO]
  | n + 1, x :: r, 0, _ => by simp [setO]
  | n + 1, x :: r, j + 1, h => by simpa [setO] using setO_ne (n := n) (l := r) (j := j) (by omega)
theorem getO_some {L : List AObj} {n : Nat} (h : n < L.length) : L[n]? = some (getO L n) := by
  unfold getO; rw [List.getElem?_eq_getElem h]; rfl
theorem swL_length {a b : Nat} : (swL a b L).length = L.length := by unfold swL; rw [AObj.rns_length, setO_length, setO_length]
theorem swL_get {a b : Nat} (ha : a < L.length) (hb : b < L.length) (j : Nat) : (swL a b L)[j]? = (L[swN a b j]?).map (AObj.rn (swN a b)) := by
  unfold swL
  rw [AObj.rns_get]
  congr 1
  by_cases h2 : j = b
  · subst h2; rw [setO_same (by rw [setO_length]; exact hb), swN_b, getO_some ha]
  · rw [setO_ne h2]
    by_cases h1 : j = a
    · subst h1; rw [setO_same ha, swN_a, getO_some hb]
    · rw [setO_ne h1, swN_ne h1 h2]
theorem rnT_lk {f : Nat → Nat} : ∀ {tm : Tm} {d : Nat}, lk (rnT f tm) d = (lk tm d).rn f
  | [], d => by simp [rnT, lk, AV.rn]
  | (s, x) :: r, d => by
    rw [rnT, lk_cons, lk_cons, rnT_lk (tm := r)]
    split <;> rfl
theorem Env.sw (En : Env F ρ (hp L) w) {a b : Nat} (ha : a < L.length) (hb : b < L.length) :
    Step F ρ (hp L) w F (fun j => ρ (swN a b j)) (hp (swL a b L)) w ∧ Env F (fun j => ρ (swN a b j)) (hp (swL a b L)) w := by
  have hget : ∀ j o, (swL a b L)[j]? = some o → ∃ o1, L[swN a b j]? = some o1 ∧ o = o1.rn (swN a b) := by
    intro j o h
    rw [swL_get ha hb] at h
    cases hq : L[swN a b j]? with
    | none => rw [hq] at h; cases h
    | some o1 => rw [hq] at h; injection h with h; exact ⟨o1, rfl, h.symm⟩
  refine ⟨⟨rfl, rfl, rfl, Nat.le_refl _, fun _ _ _ => rfl, fun _ h => h, fun b hb => .inl hb, fun c ⟨i, o', hh, h1, h2, h3, h4⟩ => ?_⟩, En.fb, fun i hi => ?_, fun i o' hi hl => ?_, fun i j o o' hh hh' c e1 e2 l1 l2 r1 r2 b1 b2 => ?_⟩
  · obtain ⟨o1, q1, rfl⟩ := hget i o' h1
    exact .inr ⟨_, o1, hh, q1, by rw [AObj.rn_live] at h2; exact h2, h3, h4⟩
  · refine En.abs _ ?_
    show L[swN a b i]? = none
    have hi : (swL a b L)[i]? = none := hi
    rw [swL_get ha hb] at hi
    cases hq : L[swN a b i]? with
    | none => rfl
    | some _ => rw [hq] at hi; cases hi
  · obtain ⟨o1, q1, rfl⟩ := hget i o' hi
    obtain ⟨hh, e1, e2, e3⟩ := En.rep _ o1 q1 (by rw [AObj.rn_live] at hl; exact hl)
    exact ⟨hh, e1, e2.rn (fun j h hj => by show ρ (swN a b (swN a b j)) = some h; rw [swN_two]; exact hj), e3⟩
  · obtain ⟨o1, q1, rfl⟩ := hget i o e1
    obtain ⟨o2, q2, rfl⟩ := hget j o' e2
    have := En.inj _ _ o1 o2 hh hh' c q1 q2 (by rw [AObj.rn_live] at l1; exact l1) (by rw [AObj.rn_live] at l2; exact l2) r1 r2 b1 b2
    rw [← swN_two (a := a) (b := b) (j := i), this, swN_two]
theorem RA.sw {a b : Nat} {x : AV} {v : Value} (h : RA w F ρ x v) : RA w F (fun j => ρ (swN a b j)) (x.rn (swN a b)) v :=
  h.rn (fun j h hj => by show ρ (swN a b (swN a b j)) = some h; rw [swN_two]; exact hj)
theorem mvN_a {a b : Nat} : mvN a b a = b := by unfold mvN; rw [show Nat.beq a a = true by simp]
theorem mvN_ne {a b j : Nat} (h : j ≠ a) : mvN a b j = j := by
  unfold mvN
  split
  · rename_i e; exact absurd (Nat.eq_of_beq_eq_true e) h
  · rfl
theorem mvL_length {a : Nat} : (mvL a L).length = L.length + 1 := by unfold mvL; rw [AObj.rns_length, List.length_append, setO_length]; rfl
theorem mvL_get {a : Nat} (ha : a < L.length) (j : Nat) : (mvL a L)[j]? = if j = a then some .dead else if j = L.length then some ((getO L a).rn (mvN a L.length)) else (L[j]?).map (AObj.rn (mvN a L.length)) := by
  unfold mvL
  rw [AObj.rns_get]
  by_cases h1 : j = a
  · subst h1
    rw [if_pos rfl, List.getElem?_append_left (by rw [setO_length]; exact ha), setO_same ha]; rfl
  · rw [if_neg h1]
    by_cases h2 : j = L.length
    · subst h2
      rw [if_pos rfl, List.getElem?_append_right (by rw [setO_length]; omega), setO_length, Nat.sub_self]; rfl
    · rw [if_neg h2]
      congr 1
      by_cases h3 : j < L.length
      · rw [List.getElem?_append_left (by rw [setO_length]; exact h3), setO_ne h1]
      · rw [List.getElem?_eq_none (by simp [setO_length]; omega), List.getElem?_eq_none (by omega)]
theorem Env.mv (En : Env F ρ (hp L) w) {a : Nat} (ha : a < L.length) :
    Step F ρ (hp L) w F (updF ρ L.length (ρ a)) (hp (mvL a L)) w ∧ Keep ρ (updF ρ L.length (ρ a)) ∧ (∀ j h, ρ j = some h → updF ρ L.length (ρ a) (mvN a L.length j) = some h) ∧ Env F (updF ρ L.length (ρ a)) (hp (mvL a L)) w := by
  have hn : ρ L.length = none := En.abs _ (List.getElem?_eq_none (Nat.le_refl _))
  have hk : Keep ρ (updF ρ L.length (ρ a)) := fun j h hj => by
    by_cases e : j = L.length
    · subst e; rw [hn] at hj; cases hj
    · rw [updF_ne _ _ e]; exact hj
  have hf : ∀ j h, ρ j = some h → updF ρ L.length (ρ a) (mvN a L.length j) = some h := fun j h hj => by
    by_cases e : j = a
    · subst e; rw [mvN_a, updF_same]; exact hj
    · rw [mvN_ne e]; exact hk j h hj
  -- where an object of the new heap comes from
  have src : ∀ j o, (mvL a L)[j]? = some o → o.live = true → ∃ i o1, L[i]? = some o1 ∧ o = o1.rn (mvN a L.length) ∧ updF ρ L.length (ρ a) j = ρ i ∧ j ≠ a ∧ ((j = L.length ∧ i = a) ∨ (j ≠ L.length ∧ i = j)) := by
    intro j o h hl
    rw [mvL_get ha] at h
    by_cases h1 : j = a
    · rw [if_pos h1] at h; injection h with h; subst h; cases hl
    · rw [if_neg h1] at h
      by_cases h2 : j = L.length
      · rw [if_pos h2] at h; injection h with h
        exact ⟨a, getO L a, getO_some ha, h.symm, by rw [h2, updF_same], h1, .inl ⟨h2, rfl⟩⟩
      · rw [if_neg h2] at h
        cases hq : L[j]? with
        | none => rw [hq] at h; cases h
        | some o1 => rw [hq] at h; injection h with h; exact ⟨j, o1, hq, h.symm, updF_ne _ _ h2, h1, .inr ⟨h2, rfl⟩⟩
  refine ⟨⟨rfl, rfl, rfl, Nat.le_refl _, fun _ _ _ => rfl, fun _ h => h, fun b hb => .inl hb, fun c ⟨i, o', hh, h1, h2, h3, h4⟩ => ?_⟩, hk, hf, En.fb, fun i hi => ?_, fun i o' hi hl => ?_, fun i j o o' hh hh' c e1 e2 l1 l2 r1 r2 b1 b2 => ?_⟩
  · obtain ⟨i1, o1, q1, rfl, q3, _⟩ := src i o' h1 h2
    exact .inr ⟨i1, o1, hh, q1, by rw [AObj.rn_live] at h2; exact h2, by rw [← q3]; exact h3, h4⟩
  · have hi : (mvL a L)[i]? = none := hi
    have := List.getElem?_eq_none_iff.1 hi
    rw [mvL_length] at this
    rw [updF_ne _ _ (by omega)]
    exact En.abs i (List.getElem?_eq_none (by omega))
  · obtain ⟨i1, o1, q1, rfl, q3, _⟩ := src i o' hi hl
    obtain ⟨hh, e1, e2, e3⟩ := En.rep _ o1 q1 (by rw [AObj.rn_live] at hl; exact hl)
    exact ⟨hh, by rw [q3]; exact e1, e2.rn hf, e3⟩
  · obtain ⟨i1, o1, q1, rfl, q3, qa, q4⟩ := src i o e1 l1
    obtain ⟨j1, o2, g1, rfl, g3, ga, g4⟩ := src j o' e2 l2
    have := En.inj _ _ o1 o2 hh hh' c q1 g1 (by rw [AObj.rn_live] at l1; exact l1) (by rw [AObj.rn_live] at l2; exact l2) (by rw [← q3]; exact r1) (by rw [← g3]; exact r2) b1 b2
    omega
def lo (ρ : Nat → Option Value) (m i : Nat) : Option Value := if i < m then ρ i else none
theorem lo_in {m i : Nat} {h : Value} (hi : i < m) (hρ : ρ i = some h) : lo ρ m i = some h := by unfold lo; rw [if_pos hi]; exact hρ
theorem cutN_ra {m i : Nat} {x : AV} {v : Value} (h : i < m → RA w F (lo ρ m) x v) : RA w F (lo ρ m) (cutN m i x) v := by
  unfold cutN
  split
  · rename_i e; exact h (by simpa [Nat.blt_eq] using e)
  · exact .any v
theorem cuts_length {m : Nat} : ∀ {xs : List AV}, (AV.cuts m xs).length = xs.length
  | [] => rfl
  | _ :: r => by rw [AV.cuts, List.length_cons, List.length_cons, cuts_length (xs := r)]
mutual
theorem RA.cut {m : Nat} : ∀ {x : AV} {v : Value}, RA w F ρ x v → RA w F (lo ρ m) (x.cut m) v
  | _, _, .d h => by rw [AV.cut]; exact .d h
  | _, _, .ptr h => by rw [AV.cut]; exact cutN_ra fun hi => .ptr (lo_in hi h)
  | _, _, .own h => by rw [AV.cut]; exact cutN_ra fun hi => .own (lo_in hi h)
  | _, _, .ep h => by rw [AV.cut]; exact cutN_ra fun hi => .ep (lo_in hi h)
  | _, _, .fp hb h hc => by rw [AV.cut]; exact .fp hb h hc
  | _, _, .agg h h1 => by rw [AV.cut]; exact .agg (RAs.cut h) h1
  | _, _, .tup h => by rw [AV.cut]; exact .tup (RAs.cut h)
  | _, _, .fn h h' => by rw [AV.cut]; exact .fn (RAs.cut h) (RAs.cut h')
  | _, _, .mp h => by rw [AV.cut]; exact cutN_ra fun hi => .mp (lo_in hi h)
  | _, _, .any v => by rw [AV.cut]; exact .any v
theorem RAs.cut {m : Nat} : ∀ {xs : List AV} {vs : List Value}, RAs w F ρ xs vs → RAs w F (lo ρ m) (AV.cuts m xs) vs
  | _, _, .nil => by rw [AV.cuts]; exact .nil
  | _, _, .cons h hr => by rw [AV.cuts]; exact .cons (RA.cut h) (RAs.cut hr)
end
theorem cutL_get {m : Nat} : ∀ {n : Nat} {l : List AObj} {j : Nat}, (cutL m n l)[j]? = if j < n then (l[j]?).map (AObj.cut m) else none
  | 0, l, j => by simp [cutL]
  | n + 1, [], j => by simp [cutL]
  | n + 1, o :: r, 0 => by simp [cutL]
  | n + 1, o :: r, j + 1 => by simp [cutL, cutL_get (n := n) (l := r) (j := j)]
theorem cut_live {m : Nat} {o : AObj} : (o.cut m).live = o.live := by cases o <;> rfl
theorem ORep.cut {m : Nat} {h : Value} {o : AObj} (hr : ORep w F ρ h o) : ORep w F (lo ρ m) h (o.cut m) := by
  cases o with
  | cells cs => obtain ⟨b, t, vs, e, hB, hra, h1⟩ := hr; exact ⟨b, t, vs, e, hB, hra.cut, h1⟩
  | _ => exact hr
theorem cutT_lk {m : Nat} : ∀ {tm : Tm} {d : Nat}, lk (cutT m tm) d = (lk tm d).cut m
  | [], d => by simp [cutT, lk, AV.cut]
  | (s, x) :: r, d => by
    rw [cutT, lk_cons, lk_cons, cutT_lk (tm := r)]
    split <;> rfl
theorem cutL_length {m : Nat} : ∀ {n : Nat} {l : List AObj}, n ≤ l.length → (cutL m n l).length = n
  | 0, _, _ => by simp [cutL]
  | n + 1, [], h => by simp at h
  | n + 1, o :: r, h => by simp [cutL, cutL_length (n := n) (l := r) (by simpa using h)]
theorem Env.cut (En : Env F ρ (hp L) w) (m : Nat) : Step F ρ (hp L) w F (lo ρ m) (hp (cutL m m L)) w ∧ Env F (lo ρ m) (hp (cutL m m L)) w := by
  have src : ∀ j o, (cutL m m L)[j]? = some o → j < m ∧ ∃ o1, L[j]? = some o1 ∧ o = o1.cut m := by
    intro j o h
    rw [cutL_get] at h
    by_cases hj : j < m
    · rw [if_pos hj] at h
      cases hq : L[j]? with
      | none => rw [hq] at h; cases h
      | some o1 => rw [hq] at h; injection h with h; exact ⟨hj, o1, rfl, h.symm⟩
    · rw [if_neg hj] at h; cases h
  have up : ∀ i h, lo ρ m i = some h → ρ i = some h := by
    intro i h hi
    unfold lo at hi
    split at hi
    · exact hi
    · cases hi
  refine ⟨⟨rfl, rfl, rfl, Nat.le_refl _, fun _ _ _ => rfl, fun _ h => h, fun b hb => .inl hb, fun c ⟨i, o', hh, h1, h2, h3, h4⟩ => ?_⟩, En.fb, fun i hi => ?_, fun i o' hi hl => ?_, fun i j o o' hh hh' c e1 e2 l1 l2 r1 r2 b1 b2 => ?_⟩
  · obtain ⟨_, o1, q1, rfl⟩ := src i o' h1
    exact .inr ⟨i, o1, hh, q1, by rw [cut_live] at h2; exact h2, up _ _ h3, h4⟩
  · have hi : (cutL m m L)[i]? = none := hi
    rw [cutL_get] at hi
    unfold lo
    by_cases hj : i < m
    · rw [if_pos hj] at hi ⊢
      refine En.abs i ?_
      show L[i]? = none
      cases hq : L[i]? with
      | none => rfl
      | some o1 => rw [hq] at hi; cases hi
    · rw [if_neg hj]
  · obtain ⟨hj, o1, q1, rfl⟩ := src i o' hi
    obtain ⟨hh, e1, e2, e3⟩ := En.rep _ o1 q1 (by rw [cut_live] at hl; exact hl)
    exact ⟨hh, lo_in hj e1, e2.cut, e3⟩
  · obtain ⟨_, o1, q1, rfl⟩ := src i o e1
    obtain ⟨_, o2, q2, rfl⟩ := src j o' e2
    exact En.inj _ _ o1 o2 hh hh' c q1 q2 (by rw [cut_live] at l1; exact l1) (by rw [cut_live] at l2; exact l2) (up _ _ r1) (up _ _ r2) b1 b2
theorem swOk_out {a b : Nat} (h : swOk k0 a b L = true) : k0 ≤ a ∧ k0 ≤ b ∧ a < L.length ∧ b < L.length := by
  simp only [swOk, Bool.and_eq_true, Nat.ble_eq, Nat.blt_eq] at h
  exact ⟨h.1.1.1, h.1.1.2, h.1.2, h.2⟩
theorem In.weak0 (hk0 : ∀ i h, ρ0 i = some h → i < k0) (h : Weak0 k0 tm L tm' L') (hI : In F0 ρ0 H0 w0 k0 N tm L a w) : In F0 ρ0 H0 w0 k0 N tm' L' a w := by
  obtain ⟨h1, h2, h3⟩ := h
  simp only [Bool.and_eq_true, Nat.ble_eq] at h1
  obtain ⟨F, ρ, S0, K0, En, Sl, hk⟩ := hI
  obtain ⟨S1, E1⟩ := En.weak h1.2 h3
  refine ⟨_, _, S0.trans S1, fun i v hv => ?_, E1, ⟨fun d => wkA_out En (wkT_lk h2 d) (tmLt_lk h1.1.2 d) (Sl.1 d), Sl.2⟩, h1.1.1⟩
  unfold rlow
  rw [if_pos (Nat.lt_of_lt_of_le (hk0 i v hv) h1.1.1), if_pos (Nat.lt_of_lt_of_le (hk0 i v hv) hk)]
  exact K0 i v hv
theorem In.weakS (hk0 : ∀ i h, ρ0 i = some h → i < k0) : ∀ {sw : List (Nat × Nat)} {tm : Tm} {L : List AObj}, WeakS k0 tm L tm' L' sw → In F0 ρ0 H0 w0 k0 N tm L a w → In F0 ρ0 H0 w0 k0 N tm' L' a w
  | [], _, _, h, hI => hI.weak0 hk0 h
  | (c, d) :: r, tm, L, h, hI => by
    unfold WeakS at h
    split at h
    · rename_i hd
      have hd := Nat.eq_of_beq_eq_true hd
      subst hd
      obtain ⟨h1, h2⟩ := h
      refine In.weakS hk0 h2 ?_
      obtain ⟨F, ρ, S0, K0, En, Sl, hk⟩ := hI
      obtain ⟨S1, K1, f1, E1⟩ := En.mv (a := c) (by simpa [Nat.blt_eq] using h1)
      exact ⟨_, _, S0.trans S1, fun i v hv => K1 i v (K0 i v hv), E1, ⟨fun k => by rw [rnT_lk]; exact (Sl.1 k).rn f1, Sl.2⟩, by rw [mvL_length]; omega⟩
    split at h
    · obtain ⟨h1, h2⟩ := h
      simp only [Bool.and_eq_true, Nat.ble_eq] at h1
      obtain ⟨h1, hle⟩ := h1
      refine In.weakS hk0 h2 ?_
      obtain ⟨F, ρ, S0, K0, En, Sl, hk⟩ := hI
      obtain ⟨S1, E1⟩ := En.cut c
      exact ⟨_, _, S0.trans S1, fun i v hv => lo_in (Nat.lt_of_lt_of_le (hk0 i v hv) h1) (K0 i v hv), E1, ⟨fun k => by rw [cutT_lk]; exact (Sl.1 k).cut, Sl.2⟩, by rw [cutL_length hle]; exact h1⟩
    obtain ⟨h1, h2⟩ := h
    obtain ⟨g1, g2, g3, g4⟩ := swOk_out h1
    refine In.weakS hk0 h2 ?_
    obtain ⟨F, ρ, S0, K0, En, Sl, hk⟩ := hI
    obtain ⟨S1, E1⟩ := En.sw g3 g4
    refine ⟨_, _, S0.trans S1, fun i v hv => ?_, E1, ⟨fun k => by rw [rnT_lk]; exact (Sl.1 k).sw, Sl.2⟩, by rw [swL_length]; exact hk⟩
    have hi := hk0 i v hv
    show ρ (swN c d i) = some v
    rw [swN_ne (by omega) (by omega)]
    exact K0 i v hv
theorem In.weak (hk0 : ∀ i h, ρ0 i = some h → i < k0) (h : Weak k0 tm L tm' L') (hI : In F0 ρ0 H0 w0 k0 N tm L a w) : In F0 ρ0 H0 w0 k0 N tm' L' a w := by
  obtain ⟨sw, h⟩ := h
  exact hI.weakS hk0 h
end
/-! ### code -/
abbrev CodeF := Tm → List AObj → (Exit → Tm → List AObj → Prop) → Prop
def cEnd (e : Exit) : CodeF := fun tm L K => K e tm L
def cNo : CodeF := fun _ _ _ => False
def cRegion (P : Program) (T : TypeId → TI) (E : Nat → Bool) (N : Nat) (ops : Array Oper) (draw : Bool) : CodeF := fun tm L K =>
  match draw with
  | false => vcOps P T E N ops.toList ops.toList tm L (K .normal)
  | true => (flowOk ops && dstsOk ops.toList N && guardsOk ops) = true ∧ drawOps P T E N ops.toList ops.toList tm L (fun l => l) fun es tm L => orderB ops.toList es = true ∧ K .normal tm L
def cSeq (x y : CodeF) : CodeF := fun tm L K => x tm L fun e tm L => match e with
  | .normal => y tm L K
  | e => K e tm L
/-- Ways may come together before they go on. -/
def cJoin (k0 : Nat) (x y : CodeF) : CodeF := fun tm L K => cSeq x y tm L K ∨ ∃ (X : Type) (Inv : X → Prop) (pat : X → Tm × List AObj), (x tm L fun e tm' L' => match e with
    | .normal => ∃ z, Inv z ∧ Weak k0 tm' L' (pat z).1 (pat z).2
    | e => K e tm' L') ∧ ∀ z, Inv z → y (pat z).1 (pat z).2 K
def cSeqJ (k0 : Nat) (c : Code) (x y : CodeF) : CodeF :=
  Code.rec (motive := fun _ => CodeF) (cSeq x y) (fun _ _ _ => cSeq x y) (fun _ _ _ j => j) (fun _ _ _ _ _ => cJoin k0 x y) (fun _ _ _ => cJoin k0 x y) (fun _ _ => cSeq x y)
    (fun _ _ _ _ _ _ => cSeq x y) (fun _ => cSeq x y) (fun _ _ => cSeq x y) (fun _ => cSeq x y) (fun _ => cSeq x y) (cSeq x y) (fun _ => cSeq x y) c
theorem cSeqJ_out {k0 : Nat} {x y : CodeF} {tm : Tm} {L : List AObj} {K : Exit → Tm → List AObj → Prop} : ∀ {c : Code}, cSeqJ k0 c x y tm L K → cJoin k0 x y tm L K
  | .skip, h => .inl h
  | .label _, h => .inl h
  | .region _ _ _, h => .inl h
  | .seq _ b, h => cSeqJ_out (c := b) h
  | .cond _ _ _, h => h
  | .block _ _, h => h
  | .loop _, h => .inl h
  | .exit _, h => .inl h
  | .ret, h => .inl h
  | .rangeFunc .., h => .inl h
  | .scope _, h => .inl h
  | .goto _, h => .inl h
  | .refuse _, h => .inl h
/-- A test: the slot's value is known behind it. -/
def cCond (c : Operand) (x y : CodeF) : CodeF := fun tm L K => match evAV tm c with
  | .d (.v (.bool b)) => match c with
    | .tmp t => (b = true → x ((t, .d (.v (.bool true))) :: tm) L K) ∧ (b = false → y ((t, .d (.v (.bool false))) :: tm) L K)
    | _ => (b = true → x tm L K) ∧ (b = false → y tm L K)
  | _ => False
def cBlock (id : Nat) (x : CodeF) : CodeF := fun tm L K => x tm L fun e tm L => match e with
  | .exit i => match Nat.beq i id with | true => K .normal tm L | false => K (.exit i) tm L
  | e => K e tm L
def cLoop (k0 : Nat) (x : CodeF) : CodeF := fun tm L K => ∃ (X : Type) (Inv : X → Prop) (pat : X → Tm × List AObj) (meas : X → Nat), (∃ x, Inv x ∧ Weak k0 tm L (pat x).1 (pat x).2) ∧ ∀ y, Inv y → x (pat y).1 (pat y).2 fun e tm' L' => match e with
    | .normal => ∃ z, Inv z ∧ meas z < meas y ∧ Weak k0 tm' L' (pat z).1 (pat z).2
    | e => K e tm' L'
def vcCode (P : Program) (T : TypeId → TI) (E : Nat → Bool) (k0 N : Nat) (c : Code) : CodeF :=
  Code.rec (motive := fun _ => CodeF) (cEnd .normal) (fun _ ops draw => cRegion P T E N ops draw) (fun c _ x y => cSeqJ k0 c x y) (fun c _ _ x y => cCond c x y) (fun id _ x => cBlock id x) (fun _ x => cLoop k0 x)
    (fun _ _ _ _ _ _ => cNo) (fun id => cEnd (.exit id)) (fun _ _ => cNo) (fun _ => cEnd .normal) (fun _ => cNo) (cEnd .ret) (fun _ => cNo) c
section
variable {P : Program} {T : TypeId → TI} {E : Nat → Bool} {N : Nat}
variable {F0 : Nat → Prop} {ρ0 : Nat → Option Value} {H0 : Hp} {w0 : World} {k0 : Nat}
theorem wp_loop_ghost {X : Type} {c : Code} {Q : Exit → Act → World → Prop} (I : X → Act → World → Prop) (μ : X → Nat) (round : ∀ x a w, I x a w → c.wp P (Exit.then (fun a' w' => ∃ y, I y a' w' ∧ μ y < μ x) Q) a w) :
    ∀ (n : Nat) (x : X) (a : Act) (w : World), μ x < n → I x a w → Code.rounds P c Q n a w
  | 0, _, _, _, h, _ => absurd h (Nat.not_lt_zero _)
  | n + 1, x, a, w, h, hI => by
    rw [rounds_succ]
    refine wp_mono (round x a w hI) fun e a' w' hq => ?_
    cases e with
    | normal =>
      obtain ⟨y, hy, hlt⟩ := hq
      exact wp_loop_ghost I μ round n y a' w' (by omega) hy
    | _ => exact hq
theorem vcCode_out (hT : T = tiOf P) (hE : ∀ g, E g = true → entersB P g = true) (hm : P.follows .mixedOrders = true) (hk0 : ∀ i h, ρ0 i = some h → i < k0) : ∀ (c : Code) (tm : Tm) (L : List AObj) (K : Exit → Tm → List AObj → Prop) (a : Act) (w : World),
    vcCode P T E k0 N c tm L K → In F0 ρ0 H0 w0 k0 N tm L a w → c.wp P (fun e a' w' => ∃ tm' L', K e tm' L' ∧ In F0 ρ0 H0 w0 k0 N tm' L' a' w') a w
  | .skip, tm, L, K, a, w, h, hI => wp_skip ⟨tm, L, h, hI⟩
  | .label _, tm, L, K, a, w, h, hI => wp_label ⟨tm, L, h, hI⟩
  | .region _ ops false, tm, L, K, a, w, h, hI => wp_region_list (vcOps_out hT hE ops.toList tm L a w h hI fun tm L a w h hI => ⟨tm, L, h, hI⟩)
  | .region _ ops true, tm, L, K, a, w, h, hI => by
    have h : (flowOk ops && dstsOk ops.toList N && guardsOk ops) = true ∧ drawOps P T E N ops.toList ops.toList tm L (fun l => l) (fun es tm L => orderB ops.toList es = true ∧ K .normal tm L) := h
    obtain ⟨hreg, h⟩ := h
    obtain ⟨es, tm', L', hTr, ⟨hord, hK⟩, hle⟩ := drawOps_out hT hE h
    obtain ⟨F, ρ, S0, K0, En, Sl, hk⟩ := hI
    refine draw_out hm hreg hTr hord En Sl fun a' w' F' ρ' S1 K1 E1 Sl1 => ⟨tm', L', hK, F', ρ', S0.trans S1, K0.trans K1, E1, Sl1, by omega⟩
  | .seq x y, tm, L, K, a, w, h, hI => by
    have h : cSeqJ k0 x (vcCode P T E k0 N x) (vcCode P T E k0 N y) tm L K := h
    have h : cJoin k0 (vcCode P T E k0 N x) (vcCode P T E k0 N y) tm L K := cSeqJ_out h
    rcases h with h | ⟨X, Inv, pat, h, hz⟩
    · unfold cSeq at h
      refine wp_seq (wp_mono (vcCode_out hT hE hm hk0 x tm L _ a w h hI) fun e a' w' ⟨tm', L', hq, hI'⟩ => ?_)
      cases e with
      | normal => exact vcCode_out hT hE hm hk0 y tm' L' K a' w' hq hI'
      | _ => exact ⟨tm', L', hq, hI'⟩
    · refine wp_seq (wp_mono (vcCode_out hT hE hm hk0 x tm L _ a w h hI) fun e a' w' ⟨tm', L', hq, hI'⟩ => ?_)
      cases e with
      | normal =>
        obtain ⟨z, hI0, hwk⟩ := hq
        exact vcCode_out hT hE hm hk0 y _ _ K a' w' (hz z hI0) (hI'.weak hk0 hwk)
      | _ => exact ⟨tm', L', hq, hI'⟩
  | .cond c x y, tm, L, K, a, w, h, hI => by
    have h : cCond c (vcCode P T E k0 N x) (vcCode P T E k0 N y) tm L K := h
    unfold cCond at h
    split at h
    · rename_i b hb
      have hc : a.eval c = .bool b := by
        obtain ⟨F, ρ, _, _, _, Sl, _⟩ := hI
        have := Sl.eval c
        rw [hb] at this
        exact this.v_out
      split at h
      · rename_i t _
        have hs : ∀ b', b = b' → In F0 ρ0 H0 w0 k0 N ((t, .d (.v (.bool b'))) :: tm) L a w := by
          rintro b' rfl
          obtain ⟨F, ρ, h1, h2, h3, Sl, h4⟩ := hI
          exact ⟨F, ρ, h1, h2, h3, Sl.same (.put hb), h4⟩
        exact wp_cond_split hc (fun hb => vcCode_out hT hE hm hk0 x _ L K a w (h.1 hb) (hs _ hb)) fun hb => vcCode_out hT hE hm hk0 y _ L K a w (h.2 hb) (hs _ hb)
      · exact wp_cond_split hc (fun hb => vcCode_out hT hE hm hk0 x tm L K a w (h.1 hb) hI) fun hb => vcCode_out hT hE hm hk0 y tm L K a w (h.2 hb) hI
    · exact h.elim
  | .block id c, tm, L, K, a, w, h, hI => by
    have h : cBlock id (vcCode P T E k0 N c) tm L K := h
    unfold cBlock at h
    refine wp_block (wp_mono (vcCode_out hT hE hm hk0 c tm L _ a w h hI) fun e a' w' ⟨tm', L', hq, hI'⟩ => ?_)
    cases e with
    | exit i =>
      unfold Exit.inBlock
      simp only at hq
      by_cases hid : i = id
      · subst hid
        simp only [if_true]
        rw [show Nat.beq i i = true by simp] at hq
        exact ⟨tm', L', hq, hI'⟩
      · simp only [if_neg hid]
        have : Nat.beq i id = false := by cases hb : Nat.beq i id with | false => rfl | true => exact absurd (Nat.eq_of_beq_eq_true hb) hid
        rw [this] at hq
        exact ⟨tm', L', hq, hI'⟩
    | _ => exact ⟨tm', L', hq, hI'⟩
  | .loop c, tm, L, K, a, w, h, hI => by
    have h : cLoop k0 (vcCode P T E k0 N c) tm L K := h
    unfold cLoop at h
    obtain ⟨X, Inv, pat, meas, ⟨x0, hx0, hw0⟩, hround⟩ := h
    refine wp_loop_rounds (meas x0 + 1) (wp_loop_ghost (fun x a w => Inv x ∧ In F0 ρ0 H0 w0 k0 N (pat x).1 (pat x).2 a w) meas (fun x a w hx => ?_) _ x0 a w (Nat.lt_succ_self _) ⟨hx0, hI.weak hk0 hw0⟩)
    refine wp_mono (vcCode_out hT hE hm hk0 c _ _ _ a w (hround x hx.1) hx.2) fun e a' w' ⟨tm', L', hq, hI'⟩ => ?_
    cases e with
    | normal =>
      obtain ⟨y, hy, hlt, hwk⟩ := hq
      exact ⟨y, ⟨hy, hI'.weak hk0 hwk⟩, hlt⟩
    | _ => exact ⟨tm', L', hq, hI'⟩
  | .exit id, tm, L, K, a, w, h, hI => wp_exit ⟨tm, L, h, hI⟩
  | .ret, tm, L, K, a, w, h, hI => wp_ret ⟨tm, L, h, hI⟩
  | .rangeFunc .., _, _, _, _, _, h, _ => h.elim
  | .scope _, _, _, _, _, _, h, _ => h.elim
  | .goto _, _, _, _, _, _, h, _ => h.elim
  | .refuse _, _, _, _, _, _, h, _ => h.elim
end
end Go.Proofs.Ytgidaifoiljgoaa
