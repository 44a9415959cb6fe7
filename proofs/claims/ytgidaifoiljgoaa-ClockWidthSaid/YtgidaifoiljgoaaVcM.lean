/- Regions. No program is named here. -/
import Derived.Test.YtgidaifoiljgoaaVcL
namespace Go.Proofs.Ytgidaifoiljgoaa
set_option linter.unusedSimpArgs false
set_option linter.unusedVariables false
open Go.RowKit
def wsK : List (Nat × AObj) → List AObj → (List AObj → Prop) → Prop
  | [], L, k => k L
  | (i, o) :: r, L, k => fObj o fun o => setK L i o fun L' => wsK r L' k
def fObjs : List AObj → (List AObj → Prop) → Prop
  | [], k => k []
  | o :: r, k => fObj o fun o => fObjs r fun l => k (o :: l)
theorem fObjs_out : ∀ {l : List AObj} {k : List AObj → Prop}, fObjs l k → k l
  | [], _, h => h
  | _ :: r, _, h => fObjs_out (l := r) (fObj_out h)
def applyK (e : Eff) (L : List AObj) (k : List AObj → Prop) : Prop := wsK e.ws L fun L' => fObjs e.news fun ns => appK L' ns k
theorem hp_set {L : List AObj} {i : Nat} {o : AObj} (h : i < L.length) : hp (L.set i o) = updF (hp L) i (some o) := by
  funext j
  unfold hp updF
  by_cases e : j = i
  · subst e; simp [h]
  · rw [if_neg e, List.getElem?_set_ne (Ne.symm e)]
theorem hp_app : ∀ {l L : List AObj}, hp (L ++ l) = appN L.length l (hp L)
  | [], L => by simp [appN]
  | o :: r, L => by
    rw [appN, ← List.singleton_append, ← List.append_assoc, hp_app (l := r) (L := L ++ [o])]
    have : hp (L ++ [o]) = updF (hp L) L.length (some o) := by
      funext j
      unfold hp updF
      by_cases e : j = L.length
      · subst e; simp
      · rw [if_neg e]
        rcases Nat.lt_or_ge j L.length with q | q
        · rw [List.getElem?_append_left q]
        · rw [List.getElem?_eq_none (by simp; omega)]; exact (List.getElem?_eq_none q).symm
    rw [this]; simp
theorem wsK_out : ∀ {ws : List (Nat × AObj)} {L : List AObj} {k : List AObj → Prop}, wsK ws L k → ∃ L', k L' ∧ hp L' = appW ws (hp L) ∧ L'.length = L.length
  | [], L, _, h => ⟨L, h, rfl, rfl⟩
  | (i, o) :: r, L, k, h => by
    obtain ⟨h1, h2⟩ := setK_out (fObj_out h)
    obtain ⟨L', h3, h4, h5⟩ := wsK_out h2
    exact ⟨L', h3, by rw [h4, hp_set h1]; rfl, by rw [h5]; simp⟩
theorem applyK_out {e : Eff} {L : List AObj} {k : List AObj → Prop} (h : applyK e L k) : ∃ L', k L' ∧ hp L' = appN L.length e.news (appW e.ws (hp L)) ∧ L.length ≤ L'.length := by
  obtain ⟨L1, h1, h2, h3⟩ := wsK_out h
  have h4 := appK_out (fObjs_out h1)
  exact ⟨_, h4, by rw [hp_app, h2, h3], by simp; omega⟩
def putK (N : Nat) (dst : Option Tmp) (x : AV) (tm : Tm) (k : Tm → Prop) : Prop :=
  match dst with
  | none => k tm
  | some d => match Nat.blt d N with
    | true => k ((d, x) :: tm)
    | false => False
def oNth : List Oper → Nat → Option Oper
  | [], _ => none
  | o :: _, 0 => some o
  | _ :: r, n + 1 => oNth r n
theorem oNth_eq : ∀ {l : List Oper} {n : Nat}, oNth l n = l[n]?
  | [], _ => rfl
  | _ :: _, 0 => rfl
  | _ :: r, n + 1 => by simpa [oNth] using oNth_eq (l := r) (n := n)
def gvK (ol : List Oper) (o : Oper) (tm : Tm) (A B : Tm → Prop) : Prop :=
  match o.guard with
  | none => A tm
  | some (j, want) => match oNth ol j with
    | some p => match p.dst with
      | some d => match lk tm d with
        | .d (.v (.bool b)) => match want with
          | true => (b = true → A ((d, .d (.v (.bool true))) :: tm)) ∧ (b = false → B ((d, .d (.v (.bool false))) :: tm))
          | false => (b = false → A ((d, .d (.v (.bool false))) :: tm)) ∧ (b = true → B ((d, .d (.v (.bool true))) :: tm))
        | _ => False
      | none => False
    | none => False
/-- Is the operation carried out? -/
def guardIs (ol : List Oper) (o : Oper) (tm : Tm) (g : Bool) : Prop :=
  (o.guard = none ∧ g = true) ∨ ∃ j want p d b, o.guard = some (j, want) ∧ ol[j]? = some p ∧ p.dst = some d ∧ lk tm d = .d (.v (.bool b)) ∧ g = (b == want)
theorem lk_cons {tm : Tm} {d : Nat} {x : AV} {k : Nat} : lk ((d, x) :: tm) k = if d = k then x else lk tm k := by
  rw [lk]
  by_cases e : d = k
  · subst e; simp
  · have : Nat.beq d k = false := by cases h : Nat.beq d k with | false => rfl | true => exact absurd (Nat.eq_of_beq_eq_true h) e
    rw [this, if_neg e]
/-- The slots' values are written differently. -/
def SameTm (tm tm' : Tm) : Prop := ∀ k, lk tm' k = lk tm k
theorem SameTm.put {tm : Tm} {d : Nat} {x : AV} (h : lk tm d = x) : SameTm tm ((d, x) :: tm) := fun k => by
  rw [lk_cons]
  split
  · rename_i e; subst e; exact h.symm
  · rfl
theorem gvK_out {ol : List Oper} {o : Oper} {tm : Tm} {A B : Tm → Prop} (h : gvK ol o tm A B) : ∃ tm', SameTm tm tm' ∧ ((guardIs ol o tm' true ∧ A tm') ∨ (guardIs ol o tm' false ∧ B tm')) := by
  unfold gvK at h
  split at h
  · rename_i hg; exact ⟨tm, fun _ => rfl, .inl ⟨.inl ⟨hg, rfl⟩, h⟩⟩
  · rename_i j want hg
    split at h
    · rename_i p hp
      rw [oNth_eq] at hp
      split at h
      · rename_i d hd
        split at h
        · rename_i b hb
          have hs : ∀ c, b = c → SameTm tm ((d, .d (.v (.bool c))) :: tm) := fun c e => .put (by rw [hb, e])
          have hl : ∀ c, lk ((d, .d (.v (.bool c))) :: tm) d = .d (.v (.bool c)) := fun c => by rw [lk_cons, if_pos rfl]
          cases want <;> cases b
          · exact ⟨_, hs _ rfl, .inl ⟨.inr ⟨j, _, p, d, _, hg, hp, hd, hl _, rfl⟩, h.1 rfl⟩⟩
          · exact ⟨_, hs _ rfl, .inr ⟨.inr ⟨j, _, p, d, _, hg, hp, hd, hl _, rfl⟩, h.2 rfl⟩⟩
          · exact ⟨_, hs _ rfl, .inr ⟨.inr ⟨j, _, p, d, _, hg, hp, hd, hl _, rfl⟩, h.2 rfl⟩⟩
          · exact ⟨_, hs _ rfl, .inl ⟨.inr ⟨j, _, p, d, _, hg, hp, hd, hl _, rfl⟩, h.1 rfl⟩⟩
        · exact h.elim
      · exact h.elim
    · exact h.elim
abbrev OpsF := Tm → List AObj → (Tm → List AObj → Prop) → Prop
def opStep (P : Program) (T : TypeId → TI) (E : Nat → Bool) (N : Nat) (ol : List Oper) (o : Oper) (ih : OpsF) : OpsF := fun tm L K =>
  gvK ol o tm (fun tm => opK P T E o.op o.type (evAV tm) L fun e x => applyK e L fun L' => putK N o.dst x tm fun tm' => ih tm' L' K) (fun tm => putK N o.dst .any tm fun tm' => ih tm' L K)
def opsEnd : OpsF := fun tm L K => K tm L
def vcOps (P : Program) (T : TypeId → TI) (E : Nat → Bool) (N : Nat) (ol : List Oper) (l : List Oper) : OpsF :=
  List.rec (motive := fun _ => OpsF) opsEnd (fun o _ ih => opStep P T E N ol o ih) l
abbrev DrawF := Tm → List AObj → (List Ent → List Ent) → (List Ent → Tm → List AObj → Prop) → Prop
def drawStep (P : Program) (T : TypeId → TI) (E : Nat → Bool) (N : Nat) (ol : List Oper) (o : Oper) (ih : DrawF) : DrawF := fun tm L es K =>
  gvK ol o tm (fun tm => opK P T E o.op o.type (evAV tm) L fun e x => lenNK L fun n => applyK e L fun L' => putK N o.dst x tm fun tm' => ih tm' L' (fun l => es (⟨e, n, x⟩ :: l)) K)
    (fun tm => lenNK L fun n => putK N o.dst .any tm fun tm' => ih tm' L (fun l => es (⟨e0, n, .any⟩ :: l)) K)
def drawEnd : DrawF := fun tm L es K => K (es []) tm L
def drawOps (P : Program) (T : TypeId → TI) (E : Nat → Bool) (N : Nat) (ol : List Oper) (l : List Oper) : DrawF :=
  List.rec (motive := fun _ => DrawF) drawEnd (fun o _ ih => drawStep P T E N ol o ih) l
/-- What is in the slots. -/
def Slots (w : World) (F : Nat → Prop) (ρ : Nat → Option Value) (N : Nat) (tm : Tm) (a : Act) : Prop := (∀ d, RA w F ρ (lk tm d) (a.tmps.getD d undef)) ∧ a.tmps.size = N ∧ a.defers = []
section
variable {P : Program} {w w' : World} {F F' : Nat → Prop} {ρ ρ' : Nat → Option Value} {L L' : List AObj} {T : TypeId → TI} {E : Nat → Bool} {N : Nat} {tm tm' : Tm} {a : Act}
theorem Slots.mono (h : Slots w F ρ N tm a) (S : Step F ρ (hp L) w F' ρ' (hp L') w') (En : Env F ρ (hp L) w) (k : Keep ρ ρ') : Slots w' F' ρ' N tm a := ⟨fun d => S.ra En k (h.1 d), h.2⟩
theorem Slots.same (h : Slots w F ρ N tm a) (hs : SameTm tm tm') : Slots w F ρ N tm' a := ⟨fun d => by rw [hs d]; exact h.1 d, h.2⟩
theorem Slots.put (h : Slots w F ρ N tm a) {dst : Option Tmp} {x : AV} {v : Value} (hv : RA w F ρ x v) {k : Tm → Prop} (hp : putK N dst x tm k) : ∃ tm', k tm' ∧ Slots w F ρ N tm' (a.put dst v) ∧ ∀ j, lk tm' j = if dst = some j then x else lk tm j := by
  unfold putK at hp
  split at hp
  · exact ⟨tm, hp, h, fun j => by simp⟩
  · rename_i d
    split at hp
    · rename_i hd
      rw [Nat.blt_eq] at hd
      refine ⟨_, hp, ⟨fun j => ?_, by simp [Act.put, h.2.1], by simpa [Act.put] using h.2.2⟩, fun j => by rw [lk_cons]; simp⟩
      rw [lk_cons]
      by_cases e : d = j
      · subst e
        rw [if_pos rfl]
        have hlt : d < a.tmps.size := by rw [h.2.1]; exact hd
        simpa [Act.put, hlt] using hv
      · rw [if_neg e]
        have := h.1 j
        have e2 : (a.put (some d) v).tmps.getD j undef = a.tmps.getD j undef := by simp [Act.put, Array.getElem?_setIfInBounds_ne e]
        rw [e2]; exact this
    · exact hp.elim
theorem const_rep {v : Value} : RA w F ρ (constAV v) v := by
  unfold constAV
  split
  · rename_i cs
    split
    · rename_i hc
      have := dv_rep (w := w) (F := F) (vs := cs.toList) (fun v hv => by have := List.all_eq_true.1 hc v hv; exact this)
      simpa using RA.d (ρ := ρ) (RD.agg this)
    · exact .any _
  · exact .d (.v _)
  · exact .d (.v _)
  · exact .d (.v _)
  · exact .d (.v _)
theorem Slots.eval (h : Slots w F ρ N tm a) (x : Operand) : RA w F ρ (evAV tm x) (a.eval x) := by
  cases x with
  | tmp t => exact h.1 t
  | const v => exact const_rep
  | global g => exact .d (.v _)
  | func f => exact .fn .nil .nil
theorem RAs.of_map {ev : Operand → AV} {ev' : Operand → Value} (h : ∀ x, RA w F ρ (ev x) (ev' x)) : ∀ (os : List Operand), RAs w F ρ (os.map ev) (os.map ev')
  | [] => .nil
  | o :: r => .cons (h o) (RAs.of_map h r)
theorem Slots.bool (h : Slots w F ρ N tm a) {d : Nat} {b : Bool} (hb : lk tm d = .d (.v (.bool b))) : a.tmps[d]? = some (.bool b) := by
  have := h.1 d
  rw [hb] at this
  have := this.v_out
  cases hd : a.tmps[d]? with
  | none => simp [hd, undef] at this
  | some u => simp [hd] at this; rw [this]
theorem Slots.guard {ops : Array Oper} {o : Oper} {g : Bool} (h : Slots w F ρ N tm a) (hg : guardIs ops.toList o tm g) : Region.wanted o (yielded ops a.tmps) = g := by
  rcases hg with ⟨h1, rfl⟩ | ⟨j, want, p, d, b, h1, h2, h3, h4, rfl⟩
  · simp [Region.wanted, h1]
  · have h5 := h.bool h4
    rw [Array.getElem?_toList] at h2
    have : yielded ops a.tmps j = some b := by simp [yielded, h2, h3, h5]
    simp [Region.wanted, h1, this]
/-- Where a function's body stands: what was at its beginning, and what is now. -/
def In (F0 : Nat → Prop) (ρ0 : Nat → Option Value) (H0 : Hp) (w0 : World) (k0 N : Nat) (tm : Tm) (L : List AObj) (a : Act) (w : World) : Prop :=
  ∃ F ρ, Step F0 ρ0 H0 w0 F ρ (hp L) w ∧ Keep ρ0 ρ ∧ Env F ρ (hp L) w ∧ Slots w F ρ N tm a ∧ k0 ≤ L.length
variable {F0 : Nat → Prop} {ρ0 : Nat → Option Value} {H0 : Hp} {w0 : World} {k0 : Nat} {K : Tm → List AObj → Prop} {Q : Exit → Act → World → Prop} {ops : Array Oper}
theorem Does.wp {o : Oper} {e : Eff} {x : AV} {next : Act → World → Prop} (hD : Does P o.op o.type L L.length (o.op.operands.toList.map (evAV tm)) e x) (S0 : Step F0 ρ0 H0 w0 F ρ (hp L) w) (K0 : Keep ρ0 ρ) (En : Env F ρ (hp L) w) (Sl : Slots w F ρ N tm a)
    (hle : L.length ≤ L'.length) (hL' : hp L' = appN L.length e.news (appW e.ws (hp L))) (h : ∀ v w' F' ρ', Step F0 ρ0 H0 w0 F' ρ' (hp L') w' → Keep ρ0 ρ' → Env F' ρ' (hp L') w' → Slots w' F' ρ' N tm a → RA w' F' ρ' x v → next (a.put o.dst v) w') : o.wp P a w next Q := by
  have hr := hD o (hp L) F ρ w a.eval rfl rfl En (fun _ _ => rfl) (fun k _ => List.getElem?_eq_none (by omega)) (RAs.of_map (fun x => Sl.eval x) _)
  have post : ∀ v w', Post F ρ (hp L) w (appN L.length e.news (appW e.ws (hp L))) x v w' → next (a.put o.dst v) w' := by
    rintro v w' ⟨F', ρ', S1, K1, E1, R1⟩
    rw [← hL'] at S1 E1
    exact h v w' F' ρ' (S0.trans S1) (K0.trans K1) E1 (Sl.mono S1 En K1) R1
  unfold Oper.wp
  unfold Runs at hr
  split at hr
  · rename_i v w' hrun; rw [hrun]; exact post v w' hr
  · rename_i w' hrun; rw [hrun]; exact post undef w' hr
  · rename_i f args w' hrun
    rw [hrun, Oper.upon_enter]
    refine hr.mono ?_
    rintro en w'' ⟨v, rfl, hp⟩
    exact post v w'' hp
  · exact hr.elim
/-- **A region in the order of its text.** -/
theorem vcOps_out (hT : T = tiOf P) (hE : ∀ g, E g = true → entersB P g = true) : ∀ (l : List Oper) (tm : Tm) (L : List AObj) (a : Act) (w : World), vcOps P T E N ops.toList l tm L K → In F0 ρ0 H0 w0 k0 N tm L a w →
    (∀ tm L a w, K tm L → In F0 ρ0 H0 w0 k0 N tm L a w → Q .normal a w) → wpList P ops Q l a w
  | [], tm, L, a, w, h, hI, hK => hK tm L a w h hI
  | o :: r, tm, L, a, w, h, hI, hK => by
    have h : opStep P T E N ops.toList o (vcOps P T E N ops.toList r) tm L K := h
    unfold opStep at h
    obtain ⟨F, ρ, S0, K0, En, Sl, hk⟩ := hI
    rw [wpList]
    obtain ⟨tm0, hs, h⟩ := gvK_out h
    replace Sl := Sl.same hs
    rcases h with ⟨hg, h⟩ | ⟨hg, h⟩
    · rw [Sl.guard hg, if_pos rfl]
      left
      obtain ⟨e, x, h1, h2⟩ := opK_out hT hE h
      obtain ⟨L', h3, h4, h5⟩ := applyK_out h1
      refine h2.wp S0 K0 En Sl h5 h4 fun v w' F' ρ' S1 K1 E1 Sl1 R1 => ?_
      obtain ⟨tm', h6, h7, _⟩ := Sl1.put R1 h3
      exact vcOps_out hT hE r tm' L' _ w' h6 ⟨F', ρ', S1, K1, E1, h7, by omega⟩ hK
    · rw [Sl.guard hg, if_neg (by simp)]
      obtain ⟨tm', h6, h7, _⟩ := Sl.put (.any undef) h
      exact vcOps_out hT hE r tm' L _ w h6 ⟨F, ρ, S0, K0, En, h7, hk⟩ hK
end
end Go.Proofs.Ytgidaifoiljgoaa
