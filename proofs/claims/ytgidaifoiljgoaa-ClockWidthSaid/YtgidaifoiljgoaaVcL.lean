/- Regions that draw their order: what the order of the text gives, each order gives. No program is named here. -/
import Derived.Test.YtgidaifoiljgoaaVcK
import Derived.Test.YtgidaifoiljgoaaFlow
namespace Go.Proofs.Ytgidaifoiljgoaa
set_option linter.unusedSimpArgs false
set_option linter.unusedVariables false
open Go.RowKit
structure Ent where
  e : Eff
  n : Nat
  r : AV
def app (x : Ent) (H : Hp) : Hp := appN x.n x.e.news (appW x.e.ws H)
def touches (x : Ent) (k : Nat) : Bool := (x.e.ws.any fun p => Nat.beq p.1 k) || (Nat.ble x.n k && Nat.blt k (x.n + x.e.news.length))
def uses (x : Ent) (k : Nat) : Bool := touches x k || x.e.rs.any fun i => Nat.beq i k
theorem appW_not {k : Nat} : ∀ {ws : List (Nat × AObj)} {H : Hp}, (ws.any fun p => Nat.beq p.1 k) = false → appW ws H k = H k := fun {ws} {H} h => appW_out fun x hx e => by
  have := List.any_eq_false.1 h x hx
  rw [e] at this
  simp at this
theorem appW_any {k : Nat} : ∀ {ws : List (Nat × AObj)} {H H' : Hp}, (ws.any fun p => Nat.beq p.1 k) = true → appW ws H k = appW ws H' k
  | [], _, _, h => by simp at h
  | (i, o) :: r, H, H', h => by
    rw [appW, appW]
    cases hr : r.any fun p => Nat.beq p.1 k with
    | true => exact appW_any hr
    | false =>
      rw [appW_not hr, appW_not hr]
      have : i = k := by
        simp only [List.any_cons, hr, Bool.or_false] at h
        exact Nat.eq_of_beq_eq_true h
      subst this
      rw [updF_same, updF_same]
theorem app_not {x : Ent} {H : Hp} {k : Nat} (h : touches x k = false) : app x H k = H k := by
  unfold touches at h
  simp only [Bool.or_eq_false_iff, Bool.and_eq_false_iff] at h
  unfold app
  rw [appN_out, appW_not h.1]
  rcases h.2 with h | h
  · left
    have : ¬ Nat.ble x.n k = true := by rw [h]; simp
    rw [Nat.ble_eq] at this; omega
  · right
    have : ¬ Nat.blt k (x.n + x.e.news.length) = true := by rw [h]; simp
    rw [Nat.blt_eq] at this; omega
theorem app_any {x : Ent} {H H' : Hp} {k : Nat} (h : touches x k = true) : app x H k = app x H' k := by
  unfold app
  by_cases hn : x.n ≤ k ∧ k < x.n + x.e.news.length
  · rw [show k = x.n + (k - x.n) by omega, appN_in (by omega), appN_in (by omega)]
  · rw [appN_out (by omega), appN_out (by omega)]
    unfold touches at h
    simp only [Bool.or_eq_true, Bool.and_eq_true, Nat.ble_eq, Nat.blt_eq] at h
    exact appW_any (h.resolve_right hn)
/-- The heap where just the operations of l have been carried out. -/
def hS : List Ent → Nat → (Nat → Bool) → Hp → Hp
  | [], _, _, H => H
  | x :: r, i, l, H => hS r (i + 1) l (if l i = true then app x H else H)
theorem hS_same {k : Nat} : ∀ {es : List Ent} {i : Nat} {l l' : Nat → Bool} {H H' : Hp}, H k = H' k → (∀ j x, es[j]? = some x → touches x k = true → l (i + j) = l' (i + j)) → hS es i l H k = hS es i l' H' k
  | [], _, _, _, _, _, h, _ => h
  | x :: r, i, l, l', H, H', h, hl => by
    rw [hS, hS]
    refine hS_same ?_ fun j y hy ht => by have := hl (j + 1) y (by simpa using hy) ht; rwa [show i + 1 + j = i + (j + 1) by omega]
    cases ht : touches x k with
    | false =>
      have : ∀ H : Hp, ∀ b : Bool, (if b = true then app x H else H) k = H k := fun H b => by cases b <;> simp [app_not ht]
      rw [this, this, h]
    | true =>
      have := hl 0 x rfl ht
      rw [Nat.add_zero] at this
      rw [← this]
      cases l i with
      | true => exact app_any ht
      | false => exact h
theorem hS_last {k : Nat} {Ha : Hp} : ∀ {es : List Ent} {i j : Nat} {x : Ent} {l : Nat → Bool} {H : Hp}, es[j]? = some x → touches x k = true → l (i + j) = true → (∀ m y, j < m → es[m]? = some y → touches y k = true → l (i + m) = false) → hS es i l H k = app x Ha k
  | [], _, _, _, _, _, h, _, _, _ => by simp at h
  | y :: r, i, 0, x, l, H, h, ht, hl, hf => by
    simp at h; subst h
    rw [hS]
    rw [Nat.add_zero] at hl
    rw [if_pos hl]
    have : hS r (i + 1) l (app y H) k = hS r (i + 1) (fun _ => false) (app y H) k := hS_same rfl fun m z hz hzt => by
      have := hf (m + 1) z (by omega) (by simpa using hz) hzt
      rwa [show i + 1 + m = i + (m + 1) by omega]
    rw [this]
    have nul : ∀ (es : List Ent) (i : Nat) (H : Hp), hS es i (fun _ => false) H = H := by
      intro es
      induction es with
      | nil => intro i H; rfl
      | cons z es ih => intro i H; rw [hS, if_neg (by simp), ih]
    rw [nul]
    exact app_any ht
  | y :: r, i, j + 1, x, l, H, h, ht, hl, hf => by
    rw [hS]
    exact hS_last (by simpa using h) ht (by rwa [show i + 1 + j = i + (j + 1) by omega]) fun m z hm hz hzt => by
      have := hf (m + 1) z (by omega) (by simpa using hz) hzt
      rwa [show i + 1 + m = i + (m + 1) by omega]
/-! ### who waits for whom -/
/-- i is waited for by j, at first or at second hand. -/
inductive Anc (ops : Array Oper) : Nat → Nat → Prop
  | one {i j : Nat} {o : Oper} {e : Edge} (ho : ops[j]? = some o) (he : e ∈ o.after) (hb : Region.binds .any e = true) (hi : e.on = i) : Anc ops i j
  | more {i m j : Nat} {o : Oper} {e : Edge} (ho : ops[j]? = some o) (he : e ∈ o.after) (hb : Region.binds .any e = true) (hm : e.on = m) (h : Anc ops i m) : Anc ops i j
def depMask (acc : List Nat) : List Edge → Nat
  | [] => 0
  | e :: r => (match Region.binds .any e with | true => 2 ^ e.on ||| acc.getD e.on 0 | false => 0) ||| depMask acc r
def ancMasks : List Oper → List Nat → List Nat
  | [], acc => acc
  | o :: r, acc => ancMasks r (acc ++ [depMask acc o.after.toList])
theorem depMask_bit {acc : List Nat} {i : Nat} : ∀ {es : List Edge}, (depMask acc es).testBit i = true → ∃ e ∈ es, Region.binds .any e = true ∧ (e.on = i ∨ (acc.getD e.on 0).testBit i = true)
  | [], h => by simp [depMask] at h
  | e :: r, h => by
    rw [depMask, Nat.testBit_or, Bool.or_eq_true] at h
    rcases h with h | h
    · cases hb : Region.binds .any e with
      | false => rw [hb] at h; simp at h
      | true =>
        rw [hb] at h
        simp only at h
        rw [Nat.testBit_or, Bool.or_eq_true, Nat.testBit_two_pow] at h
        refine ⟨e, List.mem_cons_self .., hb, h.imp (fun h => by simpa using h) id⟩
    · obtain ⟨e', h1, h2⟩ := depMask_bit (es := r) h
      exact ⟨e', List.mem_cons_of_mem _ h1, h2⟩
theorem ancMasks_bit {ops : Array Oper} : ∀ {l : List Oper} {acc : List Nat}, (∀ j o, l[j]? = some o → ops[acc.length + j]? = some o) → (∀ i j, (acc.getD j 0).testBit i = true → Anc ops i j) → ∀ i j, ((ancMasks l acc).getD j 0).testBit i = true → Anc ops i j
  | [], acc, _, h, i, j => h i j
  | o :: r, acc, hl, h, i, j => by
    rw [ancMasks]
    refine ancMasks_bit (fun j p hp => ?_) (fun i j hij => ?_) i j
    · have := hl (j + 1) p (by simpa using hp)
      rw [List.length_append]
      rwa [show acc.length + [depMask acc o.after.toList].length + j = acc.length + (j + 1) by simp; omega]
    · rcases Nat.lt_trichotomy j acc.length with hj | hj | hj
      · refine h i j ?_
        rwa [List.getD_eq_getElem?_getD, List.getElem?_append_left hj, ← List.getD_eq_getElem?_getD] at hij
      · subst hj
        rw [List.getD_eq_getElem?_getD, List.getElem?_append_right (Nat.le_refl _)] at hij
        simp at hij
        obtain ⟨e, he, hb, hi⟩ := depMask_bit hij
        have ho := hl 0 o rfl
        rw [Nat.add_zero] at ho
        rcases hi with hi | hi
        · exact .one ho (by simpa using he) hb hi
        · exact .more ho (by simpa using he) hb rfl (h i _ hi)
      · rw [List.getD_eq_getElem?_getD, List.getElem?_eq_none (by simp only [List.length_append, List.length_cons, List.length_nil]; omega), Option.getD_none, Nat.zero_testBit] at hij
        cases hij
theorem Anc.listed {ops : Array Oper} {l : Nat → Bool} (hcl : ∀ (j : Nat) (p : Oper), ops[j]? = some p → l j = true → ∀ e ∈ p.after, Region.binds .any e = true → l e.on = true) {i j : Nat} (h : Anc ops i j) : l j = true → l i = true := by
  induction h with
  | one ho he hb hi => intro hj; subst hi; exact hcl _ _ ho hj _ he hb
  | more ho he hb hm _ ih => intro hj; subst hm; exact ih (hcl _ _ ho hj _ he hb)
theorem Anc.ready {ops : Array Oper} {l : Nat → Bool} (hcl : ∀ (j : Nat) (p : Oper), ops[j]? = some p → l j = true → ∀ e ∈ p.after, Region.binds .any e = true → l e.on = true) {i j : Nat} (h : Anc ops i j) {o : Oper} (ho' : ops[j]? = some o) (hr : ∀ e ∈ o.after, Region.binds .any e = true → l e.on = true) : l i = true := by
  cases h with
  | one ho he hb hi => rw [ho] at ho'; injection ho' with e; subst e hi; exact hr _ he hb
  | more ho he hb hm h => rw [ho] at ho'; injection ho' with e; subst e hm; exact h.listed hcl (hr _ he hb)
/-- The places that two entries may quarrel about. -/
def idsOf (x : Ent) : List Nat := x.e.ws.map (·.1) ++ (List.range x.e.news.length).map (x.n + ·)
def conflict (x y : Ent) : Bool := ((idsOf x).any fun k => uses y k) || (idsOf y).any fun k => uses x k
def laterOk (masks : List Nat) (i : Nat) (x : Ent) : Nat → List Ent → Bool
  | _, [] => true
  | j, y :: r => (!conflict x y || (masks.getD j 0).testBit i) && laterOk masks i x (j + 1) r
def pairsOk (masks : List Nat) : Nat → List Ent → Bool
  | _, [] => true
  | i, x :: r => laterOk masks i x (i + 1) r && pairsOk masks (i + 1) r
def orderB (ops : List Oper) (es : List Ent) : Bool := pairsOk (ancMasks ops []) 0 es
theorem mem_idsOf {x : Ent} {k : Nat} (h : touches x k = true) : k ∈ idsOf x := by
  unfold touches at h
  simp only [Bool.or_eq_true, List.any_eq_true, Bool.and_eq_true, Nat.ble_eq, Nat.blt_eq] at h
  unfold idsOf
  rcases h with ⟨p, hp, e⟩ | h
  · have := Nat.eq_of_beq_eq_true e
    subst this
    exact List.mem_append_left _ (List.mem_map.2 ⟨p, hp, rfl⟩)
  · exact List.mem_append_right _ (List.mem_map.2 ⟨k - x.n, List.mem_range.2 (by omega), by omega⟩)
theorem conflict_of {x y : Ent} {k : Nat} (h : (touches x k = true ∧ uses y k = true) ∨ (touches y k = true ∧ uses x k = true)) : conflict x y = true := by
  unfold conflict
  simp only [Bool.or_eq_true, List.any_eq_true]
  rcases h with ⟨h1, h2⟩ | ⟨h1, h2⟩
  · exact .inl ⟨k, mem_idsOf h1, h2⟩
  · exact .inr ⟨k, mem_idsOf h1, h2⟩
theorem laterOk_get {masks : List Nat} {i : Nat} {x : Ent} : ∀ {l : List Ent} {j : Nat}, laterOk masks i x j l = true → ∀ {m : Nat} {y : Ent}, l[m]? = some y → conflict x y = true → (masks.getD (j + m) 0).testBit i = true
  | [], _, _, m, y, hy, _ => by simp at hy
  | z :: r, j, h, 0, y, hy, hc => by
    simp at hy; subst hy
    simp [laterOk] at h
    have := h.1.resolve_left (by rw [hc]; simp)
    simpa using this
  | z :: r, j, h, m + 1, y, hy, hc => by
    simp only [laterOk, Bool.and_eq_true] at h
    have := laterOk_get h.2 (m := m) (y := y) (by simpa using hy) hc
    rwa [show j + 1 + m = j + (m + 1) by omega] at this
theorem pairsOk_get {masks : List Nat} : ∀ {l : List Ent} {i : Nat}, pairsOk masks i l = true → ∀ {a b : Nat} {x y : Ent}, a < b → l[a]? = some x → l[b]? = some y → conflict x y = true → (masks.getD (i + b) 0).testBit (i + a) = true
  | [], _, _, a, b, x, y, _, h, _, _ => by simp at h
  | z :: r, i, h, 0, b, x, y, hab, hx, hy, hc => by
    simp at hx; subst hx
    simp only [pairsOk, Bool.and_eq_true] at h
    obtain ⟨b', rfl⟩ : ∃ b', b = b' + 1 := ⟨b - 1, by omega⟩
    have := laterOk_get h.1 (m := b') (y := y) (by simpa using hy) hc
    rwa [show i + 1 + b' = i + (b' + 1) by omega] at this
  | z :: r, i, h, a + 1, b, x, y, hab, hx, hy, hc => by
    simp only [pairsOk, Bool.and_eq_true] at h
    obtain ⟨b', rfl⟩ : ∃ b', b = b' + 1 := ⟨b - 1, by omega⟩
    have := pairsOk_get h.2 (a := a) (b := b') (by omega) (by simpa using hx) (by simpa using hy) hc
    rwa [show i + 1 + b' = i + (b' + 1) by omega, show i + 1 + a = i + (a + 1) by omega] at this
end Go.Proofs.Ytgidaifoiljgoaa
