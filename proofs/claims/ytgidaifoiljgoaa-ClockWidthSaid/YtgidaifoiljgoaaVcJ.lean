/- Contracts, and how they are called from elsewhere. No program is named here. -/
import Derived.Test.YtgidaifoiljgoaaVcI
namespace Go.Proofs.Ytgidaifoiljgoaa
set_option linter.unusedSimpArgs false
set_option linter.unusedVariables false
open Go.RowKit
/-- The contract of a function: of such arguments, over such objects, comes this, and these objects. -/
def Sat (P : Program) (g : FuncId) (args : List AV) (H : List AObj) (r : AV) (H' : List AObj) : Prop :=
  ∀ (F : Nat → Prop) (ρ : Nat → Option Value) (w : World) (vals : List Value), Env F ρ (hp H) w → RAs w F ρ args vals →
    Calls P g vals.toArray w fun e w' => ∃ v, e = .returned v ∧ Post F ρ (hp H) w (hp H') r v w'
/-- What a call does, among other objects. -/
def CallOK (P : Program) (g : FuncId) (args : List AV) (L : List AObj) (n : Nat) (e : Eff) (r : AV) : Prop :=
  ∀ (H : Hp) (F : Nat → Prop) (ρ : Nat → Option Value) (w : World) (vals : List Value), Env F ρ H w → (∀ i ∈ e.rs, H i = L[i]?) → (∀ k, k < e.news.length → H (n + k) = none) → RAs w F ρ args vals →
    Calls P g vals.toArray w fun en w' => ∃ v, en = .returned v ∧ Post F ρ H w (appN n e.news (appW e.ws H)) r v w'
/-! ### other names for objects -/
mutual
def AV.rn (f : Nat → Nat) : AV → AV
  | .d x => .d x
  | .ptr i o => .ptr (f i) o
  | .own i => .own (f i)
  | .ep i s m g => .ep (f i) s m g
  | .fp xs => .fp xs
  | .agg xs => .agg (AV.rns f xs)
  | .tup xs => .tup (AV.rns f xs)
  | .fn g a b => .fn g (AV.rns f a) (AV.rns f b)
  | .mp i => .mp (f i)
  | .any => .any
def AV.rns (f : Nat → Nat) : List AV → List AV
  | [] => []
  | x :: r => AV.rn f x :: AV.rns f r
end
mutual
def AV.lt (m : Nat) : AV → Bool
  | .d _ => true
  | .ptr i _ => Nat.blt i m
  | .own i => Nat.blt i m
  | .ep i _ _ _ => Nat.blt i m
  | .fp _ => true
  | .agg xs => AV.lts m xs
  | .tup xs => AV.lts m xs
  | .fn _ a b => AV.lts m a && AV.lts m b
  | .mp i => Nat.blt i m
  | .any => true
def AV.lts (m : Nat) : List AV → Bool
  | [] => true
  | x :: r => AV.lt m x && AV.lts m r
end
def AObj.rn (f : Nat → Nat) : AObj → AObj
  | .dead => .dead
  | .cells cs => .cells (AV.rns f cs)
  | .row xs => .row xs
  | .sl s rows => .sl s rows
  | .obj p => .obj p
def AObj.rns (f : Nat → Nat) : List AObj → List AObj
  | [] => []
  | x :: r => x.rn f :: AObj.rns f r
def AObj.lts (m : Nat) : List AObj → Bool
  | [] => true
  | .cells cs :: r => AV.lts m cs && AObj.lts m r
  | .dead :: r => AObj.lts m r
  | .row _ :: r => AObj.lts m r
  | .sl _ _ :: r => AObj.lts m r
  | .obj _ :: r => AObj.lts m r
theorem AObj.rns_get {f : Nat → Nat} : ∀ {l : List AObj} {i : Nat}, (AObj.rns f l)[i]? = (l[i]?).map (AObj.rn f)
  | [], i => by simp [AObj.rns]
  | x :: r, 0 => by simp [AObj.rns]
  | x :: r, i + 1 => by simp [AObj.rns, AObj.rns_get (l := r)]
theorem AObj.rns_length {f : Nat → Nat} : ∀ {l : List AObj}, (AObj.rns f l).length = l.length
  | [] => rfl
  | x :: r => by simp [AObj.rns, AObj.rns_length (l := r)]
theorem AObj.rn_live {f : Nat → Nat} {o : AObj} : (o.rn f).live = o.live := by cases o <;> rfl
theorem AObj.lts_get {m : Nat} : ∀ {l : List AObj}, AObj.lts m l = true → ∀ {i : Nat} {cs : List AV}, l[i]? = some (.cells cs) → AV.lts m cs = true
  | [], _, i, cs, h => by simp at h
  | .cells c :: r, hl, 0, cs, h => by simp [AObj.lts] at hl h; subst h; exact hl.1
  | .dead :: r, hl, 0, cs, h => by simp at h
  | .row _ :: r, hl, 0, cs, h => by simp at h
  | .sl _ _ :: r, hl, 0, cs, h => by simp at h
  | .obj _ :: r, hl, 0, cs, h => by simp at h
  | .cells c :: r, hl, i + 1, cs, h => AObj.lts_get (l := r) (by simp [AObj.lts] at hl; exact hl.2) (i := i) (by simpa using h)
  | .dead :: r, hl, i + 1, cs, h => AObj.lts_get (l := r) (by simpa [AObj.lts] using hl) (i := i) (by simpa using h)
  | .row _ :: r, hl, i + 1, cs, h => AObj.lts_get (l := r) (by simpa [AObj.lts] using hl) (i := i) (by simpa using h)
  | .sl _ _ :: r, hl, i + 1, cs, h => AObj.lts_get (l := r) (by simpa [AObj.lts] using hl) (i := i) (by simpa using h)
  | .obj _ :: r, hl, i + 1, cs, h => AObj.lts_get (l := r) (by simpa [AObj.lts] using hl) (i := i) (by simpa using h)
section
variable {P : Program} {w w' : World} {F F' : Nat → Prop} {ρ ρ' ρ0 : Nat → Option Value} {H : Hp} {L : List AObj} {n : Nat}
mutual
theorem RA.rn {f : Nat → Nat} (hf : ∀ j h, ρ0 j = some h → ρ (f j) = some h) : ∀ {x : AV} {v : Value}, RA w F ρ0 x v → RA w F ρ (x.rn f) v
  | _, _, .d h => by rw [AV.rn]; exact .d h
  | _, _, .ptr h => by rw [AV.rn]; exact .ptr (hf _ _ h)
  | _, _, .own h => by rw [AV.rn]; exact .own (hf _ _ h)
  | _, _, .ep h => by rw [AV.rn]; exact .ep (hf _ _ h)
  | _, _, .fp hb h hc => by rw [AV.rn]; exact .fp hb h hc
  | _, _, .agg h h1 => by rw [AV.rn]; exact .agg (RAs.rn hf h) h1
  | _, _, .tup h => by rw [AV.rn]; exact .tup (RAs.rn hf h)
  | _, _, .fn h h' => by rw [AV.rn]; exact .fn (RAs.rn hf h) (RAs.rn hf h')
  | _, _, .mp h => by rw [AV.rn]; exact .mp (hf _ _ h)
  | _, _, .any v => by rw [AV.rn]; exact .any v
theorem RAs.rn {f : Nat → Nat} (hf : ∀ j h, ρ0 j = some h → ρ (f j) = some h) : ∀ {xs : List AV} {vs : List Value}, RAs w F ρ0 xs vs → RAs w F ρ (AV.rns f xs) vs
  | _, _, .nil => by rw [AV.rns]; exact .nil
  | _, _, .cons h hr => by rw [AV.rns]; exact .cons (RA.rn hf h) (RAs.rn hf hr)
end
mutual
theorem RA.rn_inv {f : Nat → Nat} {m : Nat} (hf : ∀ j, j < m → ρ0 j = ρ (f j)) : ∀ (x : AV) {v : Value}, AV.lt m x = true → RA w F ρ (x.rn f) v → RA w F ρ0 x v
  | .d x, v, _, h => by rw [AV.rn] at h; cases h with | d h => exact .d h
  | .ptr i o, v, l, h => by rw [AV.rn] at h; cases h with | ptr h => exact .ptr ((hf _ (by simpa [AV.lt, Nat.blt, Nat.succ_le_iff] using l)).trans h)
  | .own i, v, l, h => by rw [AV.rn] at h; cases h with | own h => exact .own ((hf _ (by simpa [AV.lt, Nat.blt, Nat.succ_le_iff] using l)).trans h)
  | .ep i s q g, v, l, h => by rw [AV.rn] at h; cases h with | ep h => exact .ep ((hf _ (by simpa [AV.lt, Nat.blt, Nat.succ_le_iff] using l)).trans h)
  | .fp xs, v, _, h => by rw [AV.rn] at h; cases h with | fp hb h hc => exact .fp hb h hc
  | .agg xs, v, l, h => by rw [AV.rn] at h; cases h with | agg h h1 => exact .agg (RAs.rn_inv hf xs (by simpa [AV.lt] using l) h) h1
  | .tup xs, v, l, h => by rw [AV.rn] at h; cases h with | tup h => exact .tup (RAs.rn_inv hf xs (by simpa [AV.lt] using l) h)
  | .fn g a b, v, l, h => by rw [AV.rn] at h; simp [AV.lt] at l; cases h with | fn h h' => exact .fn (RAs.rn_inv hf a l.1 h) (RAs.rn_inv hf b l.2 h')
  | .mp i, v, l, h => by rw [AV.rn] at h; cases h with | mp h => exact .mp ((hf _ (by simpa [AV.lt, Nat.blt, Nat.succ_le_iff] using l)).trans h)
  | .any, v, _, _ => .any v
theorem RAs.rn_inv {f : Nat → Nat} {m : Nat} (hf : ∀ j, j < m → ρ0 j = ρ (f j)) : ∀ (xs : List AV) {vs : List Value}, AV.lts m xs = true → RAs w F ρ (AV.rns f xs) vs → RAs w F ρ0 xs vs
  | [], vs, _, h => by rw [AV.rns] at h; cases h; exact .nil
  | x :: r, vs, l, h => by rw [AV.rns] at h; simp [AV.lts] at l; cases h with | cons h hr => exact .cons (RA.rn_inv hf x l.1 h) (RAs.rn_inv hf r l.2 hr)
end
theorem ORep.rn {f : Nat → Nat} (hf : ∀ j h, ρ0 j = some h → ρ (f j) = some h) {h : Value} {o : AObj} (hr : ORep w F ρ0 h o) : ORep w F ρ h (o.rn f) := by
  cases o with
  | cells cs => obtain ⟨b, t, vs, e, hB, hra, h1⟩ := hr; exact ⟨b, t, vs, e, hB, hra.rn hf, h1⟩
  | _ => exact hr
theorem ORep.rn_inv {f : Nat → Nat} {m : Nat} (hf : ∀ j, j < m → ρ0 j = ρ (f j)) {h : Value} {o : AObj} (hl : ∀ cs, o = .cells cs → AV.lts m cs = true) (hr : ORep w F ρ h (o.rn f)) : ORep w F ρ0 h o := by
  cases o with
  | cells cs => obtain ⟨b, t, vs, e, hB, hra, h1⟩ := hr; exact ⟨b, t, vs, e, hB, hra.rn_inv hf _ (hl cs rfl), h1⟩
  | _ => exact hr
/-- The caller's names for a callee's objects: those that were handed in, then new ones. -/
def sub : List Nat → Nat → Nat → Nat
  | [], n, j => n + j
  | a :: _, _, 0 => a
  | _ :: r, n, j + 1 => sub r n j
theorem sub_lt : ∀ {σ : List Nat} {n j : Nat} (h : j < σ.length), sub σ n j = σ[j]
  | [], _, _, h => by simp at h
  | a :: r, n, 0, _ => rfl
  | a :: r, n, j + 1, h => by simpa [sub] using sub_lt (σ := r) (n := n) (j := j) (by simpa using h)
theorem sub_ge : ∀ {σ : List Nat} {n j : Nat} (_ : σ.length ≤ j), sub σ n j = n + (j - σ.length)
  | [], n, j, _ => by simp [sub]
  | a :: r, n, 0, h => by simp at h
  | a :: r, n, j + 1, h => by simp [sub]; rw [sub_ge (σ := r) (by simpa using h)]
def zipW : List Nat → List AObj → List (Nat × AObj)
  | a :: r, o :: s => (a, o) :: zipW r s
  | _, _ => []
theorem appW_out : ∀ {ws : List (Nat × AObj)} {H : Hp} {k : Nat}, (∀ x ∈ ws, x.1 ≠ k) → appW ws H k = H k
  | [], H, k, _ => rfl
  | (i, o) :: r, H, k, h => by
    rw [appW, appW_out (fun x hx => h x (List.mem_cons_of_mem _ hx)), updF_ne _ _ (fun e => h (i, o) (List.mem_cons_self ..) e.symm)]
theorem appN_out : ∀ {l : List AObj} {n : Nat} {H : Hp} {k : Nat}, (k < n ∨ n + l.length ≤ k) → appN n l H k = H k
  | [], n, H, k, _ => rfl
  | o :: r, n, H, k, h => by
    simp at h
    rw [appN, appN_out (by omega), updF_ne _ _ (by omega)]
theorem appN_in : ∀ {l : List AObj} {n : Nat} {H : Hp} {k : Nat}, k < l.length → appN n l H (n + k) = l[k]?
  | [], n, H, k, h => by simp at h
  | o :: r, n, H, 0, _ => by rw [Nat.add_zero, appN, appN_out (by omega), updF_same]; rfl
  | o :: r, n, H, k + 1, h => by
    rw [appN, show n + (k + 1) = (n + 1) + k by omega, appN_in (l := r) (by simpa using h)]; simp
theorem zipW_mem : ∀ {σ : List Nat} {os : List AObj} {x : Nat × AObj}, x ∈ zipW σ os → x.1 ∈ σ
  | [], _, x, h => by simp [zipW] at h
  | _ :: _, [], x, h => by simp [zipW] at h
  | a :: r, o :: s, x, h => by
    simp [zipW] at h
    rcases h with rfl | h
    · simp
    · exact List.mem_cons_of_mem _ (zipW_mem h)
theorem appW_zip : ∀ {σ : List Nat} {os : List AObj} {H : Hp} {j : Nat} (h : j < σ.length), σ.Nodup → os.length = σ.length → appW (zipW σ os) H σ[j] = os[j]?
  | [], _, _, _, h, _, _ => by simp at h
  | a :: r, [], _, _, _, _, h => by simp at h
  | a :: r, o :: s, H, 0, _, hd, _ => by
    rw [zipW, appW, appW_out (fun x hx e => (List.nodup_cons.1 hd).1 (by have := zipW_mem hx; rw [e] at this; simpa using this))]
    simp [updF_same]
  | a :: r, o :: s, H, j + 1, h, hd, hl => by
    rw [zipW, appW]
    simp only [List.getElem_cons_succ, List.getElem?_cons_succ]
    exact appW_zip (by simpa using h) (List.nodup_cons.1 hd).2 (by simpa using hl)
def AObj.lives : List AObj → Bool
  | [] => true
  | o :: r => o.live && AObj.lives r
theorem AObj.lives_get : ∀ {l : List AObj}, AObj.lives l = true → ∀ {i : Nat} {o : AObj}, l[i]? = some o → o.live = true
  | [], _, _, _, h => by simp at h
  | x :: r, hl, 0, o, h => by simp [AObj.lives] at hl h; subst h; exact hl.1
  | x :: r, hl, i + 1, o, h => by simp [AObj.lives] at hl; exact AObj.lives_get hl.2 (i := i) (by simpa using h)
/-- **A contract, among other objects.** -/
theorem Sat.at_ {g : FuncId} {args : List AV} {H0 H0' : List AObj} {r : AV} (h : Sat P g args H0 r H0') (σ : List Nat) (L : List AObj) (n : Nat)
    (hl : Nat.beq σ.length H0.length = true) (hd : σ.Nodup) (hle : Nat.ble H0.length H0'.length = true) (hlive : AObj.lives H0 = true) (hids : (AV.lts σ.length args && AObj.lts σ.length H0) = true)
    (hL : ∀ j (_ : j < σ.length), L[σ[j]]? = (AObj.rns (sub σ n) H0)[j]?) :
    CallOK P g (AV.rns (sub σ n) args) L n ⟨σ, zipW σ (AObj.rns (sub σ n) (H0'.take σ.length)), AObj.rns (sub σ n) (H0'.drop σ.length)⟩ (r.rn (sub σ n)) := by
  have hl := Nat.eq_of_beq_eq_true hl
  have hle := Nat.le_of_ble_eq_true hle
  simp only [Bool.and_eq_true] at hids
  intro H F ρ w vals E hrs hn hv
  have hnl : (AObj.rns (sub σ n) (H0'.drop σ.length)).length = H0'.length - σ.length := by rw [AObj.rns_length]; simp
  simp only [hnl] at hn
  generalize hρ0 : (fun j => if j < σ.length then ρ (sub σ n j) else none : Nat → Option Value) = ρ0
  have hf : ∀ j, j < σ.length → ρ0 j = ρ (sub σ n j) := fun j hj => by rw [← hρ0]; simp [hj]
  have hH : ∀ j o, H0[j]? = some o → ∃ hj : j < σ.length, H σ[j] = some (o.rn (sub σ n)) := by
    intro j o ho
    have hj : j < σ.length := by rw [hl]; exact (List.getElem?_eq_some_iff.1 ho).1
    refine ⟨hj, ?_⟩
    rw [hrs σ[j] (List.getElem_mem _), hL j hj, AObj.rns_get, ho]; rfl
  have hσn : ∀ (j : Nat) (hj : j < σ.length) (k : Nat), k < H0'.length - σ.length → σ[j] ≠ n + k := by
    intro j hj k hk e
    have h1 := hn k hk
    obtain ⟨_, h2⟩ := hH j H0[j] (by rw [List.getElem?_eq_getElem (by omega)])
    rw [e, h1] at h2; cases h2
  have inj : ∀ (i j : Nat) (hi : i < σ.length) (hj : j < σ.length), σ[i] = σ[j] → i = j := fun i j hi hj e => (List.getElem_inj hd).1 e
  have E0 : Env F ρ0 (hp H0) w := by
    refine ⟨E.fb, fun j hj => ?_, fun j o hj hlv => ?_, fun i j o o' hh hh' b e1 e2 l1 l2 r1 r2 b1 b2 => ?_⟩
    · rw [← hρ0]
      have : H0.length ≤ j := List.getElem?_eq_none_iff.1 hj
      simp; omega
    · obtain ⟨hjl, e⟩ := hH j o hj
      obtain ⟨hh, q1, q2, q3⟩ := E.rep _ _ e (by rw [AObj.rn_live]; exact hlv)
      exact ⟨hh, by rw [hf j hjl, sub_lt hjl]; exact q1, q2.rn_inv hf fun cs e => AObj.lts_get hids.2 (by rw [← e]; exact hj), q3⟩
    · obtain ⟨h1, q1⟩ := hH i o e1
      obtain ⟨h2, q2⟩ := hH j o' e2
      rw [hf i h1, sub_lt h1] at r1
      rw [hf j h2, sub_lt h2] at r2
      exact inj i j h1 h2 (E.inj _ _ _ _ hh hh' b q1 q2 (by rw [AObj.rn_live]; exact l1) (by rw [AObj.rn_live]; exact l2) r1 r2 b1 b2)
  have hlv0 : ∀ b, Lv ρ0 (hp H0) b → ∃ (j : Nat) (hj : j < σ.length) (o : AObj) (hh : Value), H σ[j] = some o ∧ o.live = true ∧ ρ σ[j] = some hh ∧ blkOf hh = some b := by
    rintro b ⟨j, o, hh, e1, e2, e3, e4⟩
    obtain ⟨h1, q1⟩ := hH j o e1
    rw [hf j h1, sub_lt h1] at e3
    exact ⟨j, h1, _, hh, q1, by rw [AObj.rn_live]; exact e2, e3, e4⟩
  have hlv1 : ∀ b, Lv ρ0 (hp H0) b → Lv ρ H b := fun b hb => by
    obtain ⟨j, hj, o, hh, q1, q2, q3, q4⟩ := hlv0 b hb
    exact ⟨_, o, hh, q1, q2, q3, q4⟩
  refine (h F ρ0 w vals E0 (hv.rn_inv hf _ hids.1)).mono ?_
  rintro en w' ⟨v, rfl, F', ρ1, S1, K1, E1, R1⟩
  refine ⟨v, rfl, F', fun k => if n ≤ k ∧ k < n + (H0'.length - σ.length) then ρ1 (σ.length + (k - n)) else ρ k, ?_⟩
  generalize hρ' : (fun k => if n ≤ k ∧ k < n + (H0'.length - σ.length) then ρ1 (σ.length + (k - n)) else ρ k : Nat → Option Value) = ρ'
  generalize hH' : appN n (AObj.rns (sub σ n) (H0'.drop σ.length)) (appW (zipW σ (AObj.rns (sub σ n) (H0'.take σ.length))) H) = H'
  -- the new heap, place by place
  have vNew : ∀ k, k < H0'.length - σ.length → H' (n + k) = (H0'[σ.length + k]?).map (AObj.rn (sub σ n)) := by
    intro k hk
    rw [← hH', appN_in (by rw [hnl]; exact hk), AObj.rns_get, List.getElem?_drop]
  have vOld : ∀ (j : Nat) (hj : j < σ.length), H' σ[j] = (H0'[j]?).map (AObj.rn (sub σ n)) := by
    intro j hj
    rw [← hH', appN_out (by
      rw [hnl]
      rcases Nat.lt_or_ge σ[j] n with q | q
      · exact .inl q
      · rcases Nat.lt_or_ge σ[j] (n + (H0'.length - σ.length)) with q2 | q2
        · exact absurd (show σ[j] = n + (σ[j] - n) by omega) (hσn j hj _ (by omega))
        · exact .inr q2), appW_zip hj hd (by rw [AObj.rns_length]; simp; omega), AObj.rns_get, List.getElem?_take_of_lt hj]
  have vFar : ∀ k, ¬ (n ≤ k ∧ k < n + (H0'.length - σ.length)) → k ∉ σ → H' k = H k := by
    intro k h1 h2
    rw [← hH', appN_out (by rw [hnl]; omega), appW_out (fun x hx e => h2 (by rw [← e]; exact zipW_mem hx))]
  have rNew : ∀ k, k < H0'.length - σ.length → ρ' (n + k) = ρ1 (σ.length + k) := by
    intro k hk
    rw [← hρ']
    simp only
    rw [if_pos ⟨by omega, by omega⟩, Nat.add_sub_cancel_left]
  have rFar : ∀ k, ¬ (n ≤ k ∧ k < n + (H0'.length - σ.length)) → ρ' k = ρ k := by
    intro k h1
    rw [← hρ']
    simp only
    rw [if_neg h1]
  have rOld : ∀ (j : Nat) (hj : j < σ.length), ρ' σ[j] = ρ1 j := by
    intro j hj
    have hc : ¬ (n ≤ σ[j] ∧ σ[j] < n + (H0'.length - σ.length)) := fun q => hσn j hj (σ[j] - n) (by omega) (by omega)
    rw [rFar _ hc]
    obtain ⟨_, q⟩ := hH j H0[j] (by rw [List.getElem?_eq_getElem (by omega)])
    obtain ⟨hh, q1, _, _⟩ := E.rep _ _ q (by rw [AObj.rn_live]; exact AObj.lives_get hlive (i := j) (by rw [List.getElem?_eq_getElem (by omega)]))
    rw [q1]
    exact (K1 j hh (by rw [hf j hj, sub_lt hj]; exact q1)).symm
  have hf' : ∀ j hh, ρ1 j = some hh → ρ' (sub σ n j) = some hh := by
    intro j hh q
    rcases Nat.lt_or_ge j σ.length with hj | hj
    · rw [sub_lt hj, rOld j hj]; exact q
    · have hlt : j < H0'.length := by
        rcases Nat.lt_or_ge j H0'.length with q2 | q2
        · exact q2
        · rw [E1.abs j (List.getElem?_eq_none_iff.2 q2)] at q; cases q
      rw [sub_ge hj, rNew _ (by omega), show σ.length + (j - σ.length) = j by omega]; exact q
  -- an object of the new heap is the callee's, or the caller's own as it was
  have parts : ∀ k o, H' k = some o → (∃ j o0, H0'[j]? = some o0 ∧ o = o0.rn (sub σ n) ∧ k = sub σ n j ∧ ρ' k = ρ1 j) ∨ (¬ (n ≤ k ∧ k < n + (H0'.length - σ.length)) ∧ k ∉ σ ∧ H k = some o ∧ ρ' k = ρ k) := by
    intro k o hk
    by_cases h1 : n ≤ k ∧ k < n + (H0'.length - σ.length)
    · left
      have e : k = n + (k - n) := by omega
      rw [e, vNew (k - n) (by omega)] at hk
      obtain ⟨o0, q1, q2⟩ := Option.map_eq_some_iff.1 hk
      exact ⟨_, o0, q1, q2.symm, by rw [sub_ge (by omega)]; omega, by rw [e, rNew _ (by omega), Nat.add_sub_cancel_left]⟩
    · by_cases h2 : k ∈ σ
      · left
        obtain ⟨j, hj, rfl⟩ := List.getElem_of_mem h2
        rw [vOld j hj] at hk
        obtain ⟨o0, q1, q2⟩ := Option.map_eq_some_iff.1 hk
        exact ⟨j, o0, q1, q2.symm, (sub_lt hj).symm, rOld j hj⟩
      · exact .inr ⟨h1, h2, by rw [← vFar k h1 h2]; exact hk, rFar k h1⟩
  have hlv2 : ∀ b, Lv ρ' H' b → w.heap.size ≤ b ∨ Lv ρ H b := by
    rintro b ⟨k, o, hh, e1, e2, e3, e4⟩
    rcases parts k o e1 with ⟨j, o0, q1, rfl, q3, q4⟩ | ⟨_, _, q3, q4⟩
    · rw [AObj.rn_live] at e2
      rw [q4] at e3
      exact (S1.lsrc b ⟨j, o0, hh, q1, e2, e3, e4⟩).elim .inl fun q => .inr (hlv1 b q)
    · rw [q4] at e3
      exact .inr ⟨k, o, hh, q3, e2, e3, e4⟩
  have Kp : Keep ρ ρ' := by
    intro k hh hk
    by_cases h1 : n ≤ k ∧ k < n + (H0'.length - σ.length)
    · have := E.abs k (by have := hn (k - n) (by omega); rwa [show n + (k - n) = k by omega] at this)
      rw [this] at hk; cases hk
    · rw [rFar k h1]; exact hk
  have own : ∀ k o hh b, ¬ (k ∈ σ) → H k = some o → o.live = true → ρ k = some hh → blkOf hh = some b → b < w.heap.size ∧ ¬ F b ∧ ¬ Lv ρ0 (hp H0) b := by
    intro k o hh b h1 h2 h3 h4 h5
    obtain ⟨h0, q1, q2, q3⟩ := E.rep k o h2 h3
    rw [h4] at q1; injection q1 with q1; subst q1
    refine ⟨(q3 b h5).1, (q3 b h5).2, fun q => ?_⟩
    obtain ⟨j, hj, o2, h6, g1, g2, g3, g4⟩ := hlv0 b q
    exact h1 (E.inj k σ[j] o o2 hh h6 b h2 g1 h3 g2 h4 g3 h5 g4 ▸ List.getElem_mem _)
  refine ⟨⟨S1.os, S1.tape, S1.output, S1.size, fun b hb hnl => S1.unch b hb fun q => hnl (hlv1 b q), S1.fsub, fun b hb => (S1.fsrc b hb).elim .inl fun q => .inr (q.elim .inl fun q => .inr (hlv1 b q)), hlv2⟩, Kp, ⟨E1.fb, fun k hk => ?_, fun k o hk hlv => ?_, fun i j o o' hi hj b e1 e2 l1 l2 r1 r2 b1 b2 => ?_⟩, R1.rn hf'⟩
  · by_cases h1 : n ≤ k ∧ k < n + (H0'.length - σ.length)
    · have e : k = n + (k - n) := by omega
      rw [e, vNew (k - n) (by omega)] at hk
      simp at hk
      omega
    · by_cases h2 : k ∈ σ
      · obtain ⟨j, hj, rfl⟩ := List.getElem_of_mem h2
        rw [vOld j hj] at hk
        simp at hk
        omega
      · rw [rFar k h1]; exact E.abs k (by rw [← vFar k h1 h2]; exact hk)
  · rcases parts k o hk with ⟨j, o0, q1, rfl, q3, q4⟩ | ⟨_, q2, q3, q4⟩
    · rw [AObj.rn_live] at hlv
      obtain ⟨hh, g1, g2, g3⟩ := E1.rep j o0 q1 hlv
      exact ⟨hh, by rw [q4]; exact g1, g2.rn hf', g3⟩
    · obtain ⟨hh, g1, g2, g3⟩ := E.rep k o q3 hlv
      have hown : ∀ b, blkOf hh = some b → b < w.heap.size ∧ ¬ F b ∧ ¬ Lv ρ0 (hp H0) b := fun b hb => own k o hh b q2 q3 hlv g1 hb
      refine ⟨hh, by rw [q4]; exact g1, g2.mono S1.size (fun b hb hlt => S1.unch b hlt (hown b hb).2.2) (S1.keepF E0) S1.fsub Kp, fun b hb => ⟨Nat.lt_of_lt_of_le (hown b hb).1 S1.size, fun q => ?_⟩⟩
      rcases S1.fsrc b q with q | q | q
      · exact (hown b hb).2.1 q
      · have := (hown b hb).1; omega
      · exact (hown b hb).2.2 q
  · have mix : ∀ (i j : Nat) (o o' : AObj) (hi hj : Value) (b : Nat), (∃ j0 o0, H0'[j0]? = some o0 ∧ o = o0.rn (sub σ n) ∧ i = sub σ n j0 ∧ ρ' i = ρ1 j0) → (j ∉ σ ∧ H j = some o' ∧ ρ' j = ρ j) → o.live = true → o'.live = true → ρ' i = some hi → ρ' j = some hj → blkOf hi = some b → blkOf hj = some b → False := by
      rintro i j o o' hi hj b ⟨j0, o0, q1, rfl, q3, q4⟩ ⟨p1, p2, p3⟩ l1 l2 r1 r2 b1 b2
      rw [p3] at r2
      rw [q4] at r1
      rw [AObj.rn_live] at l1
      obtain ⟨g1, g2, g3⟩ := own j o' hj b p1 p2 l2 r2 b2
      rcases S1.lsrc b ⟨j0, o0, hi, q1, l1, r1, b1⟩ with q | q
      · omega
      · exact g3 q
    rcases parts i o e1 with p | ⟨p0, p1, p2, p3⟩ <;> rcases parts j o' e2 with q | ⟨q0, q1, q2, q3⟩
    · obtain ⟨j0, o0, g1, rfl, g3, g4⟩ := p
      obtain ⟨j1, o1, k1, rfl, k3, k4⟩ := q
      rw [g4] at r1
      rw [k4] at r2
      rw [AObj.rn_live] at l1 l2
      rw [g3, k3, E1.inj j0 j1 o0 o1 hi hj b g1 k1 l1 l2 r1 r2 b1 b2]
    · exact (mix i j o o' hi hj b p ⟨q1, q2, q3⟩ l1 l2 r1 r2 b1 b2).elim
    · exact (mix j i o' o hj hi b q ⟨p1, p2, p3⟩ l2 l1 r2 r1 b2 b1).elim
    · rw [p3] at r1
      rw [q3] at r2
      exact E.inj i j o o' hi hj b p2 q2 l1 l2 r1 r2 b1 b2
end
end Go.Proofs.Ytgidaifoiljgoaa
