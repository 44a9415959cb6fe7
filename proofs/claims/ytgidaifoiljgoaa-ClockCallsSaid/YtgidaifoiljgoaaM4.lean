/- Parts VcM, VcN, VcO, VcP, VcQ, Frame of the proof, put together. -/
import Derived.Test.YtgidaifoiljgoaaM3
import Derived.ProofKit
import Derived.OpenShut
import Derived.ShutString
import Derived.ChangeOld
import Derived.SizedLaws
import Derived.Carry
import Derived.Deep.Slices
/- Regions. No program is named here. -/
namespace Go.Proofs.Ytgidaifoiljgoaa
set_option linter.unusedSimpArgs false
set_option linter.unusedVariables false
open Go.RowKit
def wsK : List (Nat × AObj) → List AObj → (List AObj → Prop) → Prop
  | [], L, k => k L
  | (i, o) :: r, L, k => fObj o fun o => setK L i o fun L' => wsK r L' k
def fObjs : List AObj → (List AObj → Prop) → Prop
  | [], k => k []
  | o :: r, k => fObj o fun o => fObjs r fun l => k (o :: l)
theorem fObjs_out : ∀ {l : List AObj} {k : List AObj → Prop}, fObjs l k → k l
  | [], _, h => h
  | _ :: r, _, h => fObjs_out (l := r) (fObj_out h)
def applyK (e : Eff) (L : List AObj) (k : List AObj → Prop) : Prop := wsK e.ws L fun L' => fObjs e.news fun ns => appK L' ns k
theorem hp_set {L : List AObj} {i : Nat} {o : AObj} (h : i < L.length) : hp (L.set i o) = updF (hp L) i (some o) := by
  funext j
  unfold hp updF
  by_cases e : j = i
  · subst e; simp [h]
  · rw [if_neg e, List.getElem?_set_ne (Ne.symm e)]
theorem hp_app : ∀ {l L : List AObj}, hp (L ++ l) = appN L.length l (hp L)
  | [], L => by simp [appN]
  | o :: r, L => by
    rw [appN, ← List.singleton_append, ← List.append_assoc, hp_app (l := r) (L := L ++ [o])]
    have : hp (L ++ [o]) = updF (hp L) L.length (some o) := by
      funext j
      unfold hp updF
      by_cases e : j = L.length
      · subst e; simp
      · rw [if_neg e]
        rcases Nat.lt_or_ge j L.length with q | q
        · rw [List.getElem?_append_left q]
        · rw [List.getElem?_eq_none (by simp; omega)]; exact (List.getElem?_eq_none q).symm
    rw [this]; simp
theorem wsK_out : ∀ {ws : List (Nat × AObj)} {L : List AObj} {k : List AObj → Prop}, wsK ws L k → ∃ L', k L' ∧ hp L' = appW ws (hp L) ∧ L'.length = L.length
  | [], L, _, h => ⟨L, h, rfl, rfl⟩
  | (i, o) :: r, L, k, h => by
    obtain ⟨h1, h2⟩ := setK_out (fObj_out h)
    obtain ⟨L', h3, h4, h5⟩ := wsK_out h2
    exact ⟨L', h3, by rw [h4, hp_set h1]; rfl, by rw [h5]; simp⟩
theorem applyK_out {e : Eff} {L : List AObj} {k : List AObj → Prop} (h : applyK e L k) : ∃ L', k L' ∧ hp L' = appN L.length e.news (appW e.ws (hp L)) ∧ L.length ≤ L'.length := by
  obtain ⟨L1, h1, h2, h3⟩ := wsK_out h
  have h4 := appK_out (fObjs_out h1)
  exact ⟨_, h4, by rw [hp_app, h2, h3], by simp; omega⟩
def putK (N : Nat) (dst : Option Tmp) (x : AV) (tm : Tm) (k : Tm → Prop) : Prop :=
  match dst with
  | none => k tm
  | some d => match Nat.blt d N with
    | true => k ((d, x) :: tm)
    | false => False
def oNth : List Oper → Nat → Option Oper
  | [], _ => none
  | o :: _, 0 => some o
  | _ :: r, n + 1 => oNth r n
theorem oNth_eq : ∀ {l : List Oper} {n : Nat}, oNth l n = l[n]?
  | [], _ => rfl
  | _ :: _, 0 => rfl
  | _ :: r, n + 1 => by simpa [oNth] using oNth_eq (l := r) (n := n)
def gvK (ol : List Oper) (o : Oper) (tm : Tm) (A B : Tm → Prop) : Prop :=
  match o.guard with
  | none => A tm
  | some (j, want) => match oNth ol j with
    | some p => match p.dst with
      | some d => match lk tm d with
        | .d (.v (.bool b)) => match want with
          | true => (b = true → A ((d, .d (.v (.bool true))) :: tm)) ∧ (b = false → B ((d, .d (.v (.bool false))) :: tm))
          | false => (b = false → A ((d, .d (.v (.bool false))) :: tm)) ∧ (b = true → B ((d, .d (.v (.bool true))) :: tm))
        | .d (.v (.tuple _)) => B tm
        | _ => False
      | none => False
    | none => False
def boolOf (u : Value) : Option Bool := match u with | .bool b => some b | _ => none
/-- What stands for an operation that is passed over. -/
abbrev skipAV : AV := .d (.v (.tuple #[]))
/-- Is the operation carried out? -/
def guardIs (ol : List Oper) (o : Oper) (tm : Tm) (g : Bool) : Prop :=
  (o.guard = none ∧ g = true) ∨ ∃ j want p d u, o.guard = some (j, want) ∧ ol[j]? = some p ∧ p.dst = some d ∧ lk tm d = .d (.v u) ∧ g = (boolOf u == some want)
theorem lk_cons {tm : Tm} {d : Nat} {x : AV} {k : Nat} : lk ((d, x) :: tm) k = if d = k then x else lk tm k := by
  rw [lk]
  by_cases e : d = k
  · subst e; simp
  · have : Nat.beq d k = false := by cases h : Nat.beq d k with | false => rfl | true => exact absurd (Nat.eq_of_beq_eq_true h) e
    rw [this, if_neg e]
/-- The slots' values are written differently. -/
def SameTm (tm tm' : Tm) : Prop := ∀ k, lk tm' k = lk tm k
theorem SameTm.put {tm : Tm} {d : Nat} {x : AV} (h : lk tm d = x) : SameTm tm ((d, x) :: tm) := fun k => by
  rw [lk_cons]
  split
  · rename_i e; subst e; exact h.symm
  · rfl
theorem gvK_out {ol : List Oper} {o : Oper} {tm : Tm} {A B : Tm → Prop} (h : gvK ol o tm A B) : ∃ tm', SameTm tm tm' ∧ ((guardIs ol o tm' true ∧ A tm') ∨ (guardIs ol o tm' false ∧ B tm')) := by
  unfold gvK at h
  split at h
  · rename_i hg; exact ⟨tm, fun _ => rfl, .inl ⟨.inl ⟨hg, rfl⟩, h⟩⟩
  · rename_i j want hg
    split at h
    · rename_i p hp
      rw [oNth_eq] at hp
      split at h
      · rename_i d hd
        split at h
        · rename_i b hb
          have hs : ∀ c, b = c → SameTm tm ((d, .d (.v (.bool c))) :: tm) := fun c e => .put (by rw [hb, e])
          have hl : ∀ c, lk ((d, .d (.v (.bool c))) :: tm) d = .d (.v (.bool c)) := fun c => by rw [lk_cons, if_pos rfl]
          cases want <;> cases b
          · exact ⟨_, hs _ rfl, .inl ⟨.inr ⟨j, _, p, d, _, hg, hp, hd, hl _, rfl⟩, h.1 rfl⟩⟩
          · exact ⟨_, hs _ rfl, .inr ⟨.inr ⟨j, _, p, d, _, hg, hp, hd, hl _, rfl⟩, h.2 rfl⟩⟩
          · exact ⟨_, hs _ rfl, .inr ⟨.inr ⟨j, _, p, d, _, hg, hp, hd, hl _, rfl⟩, h.2 rfl⟩⟩
          · exact ⟨_, hs _ rfl, .inl ⟨.inr ⟨j, _, p, d, _, hg, hp, hd, hl _, rfl⟩, h.1 rfl⟩⟩
        · rename_i vs hb
          exact ⟨tm, fun _ => rfl, .inr ⟨.inr ⟨j, _, p, d, _, hg, hp, hd, hb, rfl⟩, h⟩⟩
        · exact h.elim
      · exact h.elim
    · exact h.elim
abbrev OpsF := Tm → List AObj → (Tm → List AObj → Prop) → Prop
def opStep (P : Program) (T : TypeId → TI) (E : Nat → Bool) (N : Nat) (ol : List Oper) (o : Oper) (ih : OpsF) : OpsF := fun tm L K =>
  gvK ol o tm (fun tm => opK P T E o.op o.type (evAV tm) L fun e x => applyK e L fun L' => putK N o.dst x tm fun tm' => ih tm' L' K) (fun tm => putK N o.dst skipAV tm fun tm' => ih tm' L K)
def opsEnd : OpsF := fun tm L K => K tm L
def vcOps (P : Program) (T : TypeId → TI) (E : Nat → Bool) (N : Nat) (ol : List Oper) (l : List Oper) : OpsF :=
  List.rec (motive := fun _ => OpsF) opsEnd (fun o _ ih => opStep P T E N ol o ih) l
abbrev DrawF := Tm → List AObj → (List Ent → List Ent) → (List Ent → Tm → List AObj → Prop) → Prop
def drawStep (P : Program) (T : TypeId → TI) (E : Nat → Bool) (N : Nat) (ol : List Oper) (o : Oper) (ih : DrawF) : DrawF := fun tm L es K =>
  gvK ol o tm (fun tm => opK P T E o.op o.type (evAV tm) L fun e x => lenNK L fun n => applyK e L fun L' => putK N o.dst x tm fun tm' => ih tm' L' (fun l => es (⟨e, n, x⟩ :: l)) K)
    (fun tm => lenNK L fun n => putK N o.dst skipAV tm fun tm' => ih tm' L (fun l => es (⟨e0, n, skipAV⟩ :: l)) K)
def drawEnd : DrawF := fun tm L es K => K (es []) tm L
def drawOps (P : Program) (T : TypeId → TI) (E : Nat → Bool) (N : Nat) (ol : List Oper) (l : List Oper) : DrawF :=
  List.rec (motive := fun _ => DrawF) drawEnd (fun o _ ih => drawStep P T E N ol o ih) l
/-- What is in the slots. -/
def Slots (w : World) (F : Nat → Prop) (ρ : Nat → Option Value) (N : Nat) (tm : Tm) (a : Act) : Prop := (∀ d, RA w F ρ (lk tm d) (a.tmps.getD d undef)) ∧ a.tmps.size = N ∧ a.defers = []
section
variable {P : Program} {w w' : World} {F F' : Nat → Prop} {ρ ρ' : Nat → Option Value} {L L' : List AObj} {T : TypeId → TI} {E : Nat → Bool} {N : Nat} {tm tm' : Tm} {a : Act}
theorem Slots.mono (h : Slots w F ρ N tm a) (S : Step F ρ (hp L) w F' ρ' (hp L') w') (En : Env F ρ (hp L) w) (k : Keep ρ ρ') : Slots w' F' ρ' N tm a := ⟨fun d => S.ra En k (h.1 d), h.2⟩
theorem Slots.same (h : Slots w F ρ N tm a) (hs : SameTm tm tm') : Slots w F ρ N tm' a := ⟨fun d => by rw [hs d]; exact h.1 d, h.2⟩
theorem Slots.put (h : Slots w F ρ N tm a) {dst : Option Tmp} {x : AV} {v : Value} (hv : RA w F ρ x v) {k : Tm → Prop} (hp : putK N dst x tm k) : ∃ tm', k tm' ∧ Slots w F ρ N tm' (a.put dst v) ∧ ∀ j, lk tm' j = if dst = some j then x else lk tm j := by
  unfold putK at hp
  split at hp
  · exact ⟨tm, hp, h, fun j => by simp⟩
  · rename_i d
    split at hp
    · rename_i hd
      rw [Nat.blt_eq] at hd
      refine ⟨_, hp, ⟨fun j => ?_, by simp [Act.put, h.2.1], by simpa [Act.put] using h.2.2⟩, fun j => by rw [lk_cons]; simp⟩
      rw [lk_cons]
      by_cases e : d = j
      · subst e
        rw [if_pos rfl]
        have hlt : d < a.tmps.size := by rw [h.2.1]; exact hd
        simpa [Act.put, hlt] using hv
      · rw [if_neg e]
        have := h.1 j
        have e2 : (a.put (some d) v).tmps.getD j undef = a.tmps.getD j undef := by simp [Act.put, Array.getElem?_setIfInBounds_ne e]
        rw [e2]; exact this
    · exact hp.elim
theorem const_rep {v : Value} : RA w F ρ (constAV v) v := by
  unfold constAV
  split
  · rename_i cs
    split
    · rename_i hc
      have := dv_rep (w := w) (F := F) (vs := cs.toList) (fun v hv => by have := List.all_eq_true.1 hc v hv; exact this)
      simpa using RA.d (ρ := ρ) (RD.agg this)
    · exact .any _
  · exact .d (.v _)
  · exact .d (.v _)
  · exact .d (.v _)
  · exact .d (.v _)
theorem Slots.eval (h : Slots w F ρ N tm a) (x : Operand) : RA w F ρ (evAV tm x) (a.eval x) := by
  cases x with
  | tmp t => exact h.1 t
  | const v => exact const_rep
  | global g => exact .d (.v _)
  | func f => exact .fn .nil .nil
theorem RAs.of_map {ev : Operand → AV} {ev' : Operand → Value} (h : ∀ x, RA w F ρ (ev x) (ev' x)) : ∀ (os : List Operand), RAs w F ρ (os.map ev) (os.map ev')
  | [] => .nil
  | o :: r => .cons (h o) (RAs.of_map h r)
theorem Slots.bool (h : Slots w F ρ N tm a) {d : Nat} {u : Value} (hb : lk tm d = .d (.v u)) : (a.tmps[d]? = some u) ∨ (a.tmps[d]? = none ∧ u = undef) := by
  have := h.1 d
  rw [hb] at this
  have := this.v_out
  cases hd : a.tmps[d]? with
  | none => simp [hd] at this; exact .inr ⟨rfl, this.symm⟩
  | some u => simp [hd] at this; rw [this]; exact .inl rfl
def yieldOf (x : Option Value) : Option Bool := match x with | some (.bool b) => some b | _ => none
theorem yields_of {x : Option Value} {u : Value} (h : x = some u ∨ (x = none ∧ u = undef)) : yieldOf x = boolOf u := by
  rcases h with rfl | ⟨rfl, rfl⟩
  · cases u <;> rfl
  · rfl
theorem Slots.guard {ops : Array Oper} {o : Oper} {g : Bool} (h : Slots w F ρ N tm a) (hg : guardIs ops.toList o tm g) : Region.wanted o (yielded ops a.tmps) = g := by
  rcases hg with ⟨h1, rfl⟩ | ⟨j, want, p, d, u, h1, h2, h3, h4, rfl⟩
  · simp [Region.wanted, h1]
  · have h5 := h.bool h4
    rw [Array.getElem?_toList] at h2
    have : yielded ops a.tmps j = boolOf u := by
      unfold yielded
      rw [h2]
      show yieldOf ((p.dst).bind (a.tmps[·]?)) = _
      rw [h3]
      exact yields_of h5
    simp [Region.wanted, h1, this]
/-- Where a function's body stands: what was at its beginning, and what is now. -/
def In (F0 : Nat → Prop) (ρ0 : Nat → Option Value) (H0 : Hp) (w0 : World) (k0 N : Nat) (tm : Tm) (L : List AObj) (a : Act) (w : World) : Prop :=
  ∃ F ρ, Step F0 ρ0 H0 w0 F ρ (hp L) w ∧ Keep ρ0 ρ ∧ Env F ρ (hp L) w ∧ Slots w F ρ N tm a ∧ k0 ≤ L.length
variable {F0 : Nat → Prop} {ρ0 : Nat → Option Value} {H0 : Hp} {w0 : World} {k0 : Nat} {K : Tm → List AObj → Prop} {Q : Exit → Act → World → Prop} {ops : Array Oper}
theorem Does.wp {o : Oper} {e : Eff} {x : AV} {next : Act → World → Prop} (hD : Does P o.op o.type L L.length (o.op.operands.toList.map (evAV tm)) e x) (S0 : Step F0 ρ0 H0 w0 F ρ (hp L) w) (K0 : Keep ρ0 ρ) (En : Env F ρ (hp L) w) (Sl : Slots w F ρ N tm a)
    (hle : L.length ≤ L'.length) (hL' : hp L' = appN L.length e.news (appW e.ws (hp L))) (h : ∀ v w' F' ρ', Step F0 ρ0 H0 w0 F' ρ' (hp L') w' → Keep ρ0 ρ' → Env F' ρ' (hp L') w' → Slots w' F' ρ' N tm a → RA w' F' ρ' x v → next (a.put o.dst v) w') : o.wp P a w next Q := by
  have hr := hD o (hp L) F ρ w a.eval rfl rfl En (fun _ _ => rfl) (fun k _ => List.getElem?_eq_none (by omega)) (RAs.of_map (fun x => Sl.eval x) _)
  have post : ∀ v w', Post F ρ (hp L) w (appN L.length e.news (appW e.ws (hp L))) x v w' → next (a.put o.dst v) w' := by
    rintro v w' ⟨F', ρ', S1, K1, E1, R1⟩
    rw [← hL'] at S1 E1
    exact h v w' F' ρ' (S0.trans S1) (K0.trans K1) E1 (Sl.mono S1 En K1) R1
  unfold Oper.wp
  unfold Runs at hr
  split at hr
  · rename_i v w' hrun; rw [hrun]; exact post v w' hr
  · rename_i w' hrun; rw [hrun]; exact post undef w' hr
  · rename_i f args w' hrun
    rw [hrun, Oper.upon_enter]
    refine hr.mono ?_
    rintro en w'' ⟨v, rfl, hp⟩
    exact post v w'' hp
  · exact hr.elim
/-- **A region in the order of its text.** -/
theorem vcOps_out (hT : T = tiOf P) (hE : ∀ g, E g = true → entersB P g = true) : ∀ (l : List Oper) (tm : Tm) (L : List AObj) (a : Act) (w : World), vcOps P T E N ops.toList l tm L K → In F0 ρ0 H0 w0 k0 N tm L a w →
    (∀ tm L a w, K tm L → In F0 ρ0 H0 w0 k0 N tm L a w → Q .normal a w) → wpList P ops Q l a w
  | [], tm, L, a, w, h, hI, hK => hK tm L a w h hI
  | o :: r, tm, L, a, w, h, hI, hK => by
    have h : opStep P T E N ops.toList o (vcOps P T E N ops.toList r) tm L K := h
    unfold opStep at h
    obtain ⟨F, ρ, S0, K0, En, Sl, hk⟩ := hI
    rw [wpList]
    obtain ⟨tm0, hs, h⟩ := gvK_out h
    replace Sl := Sl.same hs
    rcases h with ⟨hg, h⟩ | ⟨hg, h⟩
    · rw [Sl.guard hg, if_pos rfl]
      left
      obtain ⟨e, x, h1, h2⟩ := opK_out hT hE h
      obtain ⟨L', h3, h4, h5⟩ := applyK_out h1
      refine h2.wp S0 K0 En Sl h5 h4 fun v w' F' ρ' S1 K1 E1 Sl1 R1 => ?_
      obtain ⟨tm', h6, h7, _⟩ := Sl1.put R1 h3
      exact vcOps_out hT hE r tm' L' _ w' h6 ⟨F', ρ', S1, K1, E1, h7, by omega⟩ hK
    · rw [Sl.guard hg, if_neg (by simp)]
      obtain ⟨tm', h6, h7, _⟩ := Sl.put (.d (.v undef)) h
      exact vcOps_out hT hE r tm' L _ w h6 ⟨F, ρ, S0, K0, En, h7, hk⟩ hK
end
end Go.Proofs.Ytgidaifoiljgoaa
/- A region that draws its order. No program is named here. -/
namespace Go.Proofs.Ytgidaifoiljgoaa
set_option linter.unusedSimpArgs false
set_option linter.unusedVariables false
open Go.RowKit
/-- A run in the order of the text, with what each operation did. -/
inductive Tr (P : Program) (N : Nat) (ol : List Oper) : List Oper → Tm → List AObj → List Ent → Tm → List AObj → Prop
  | nil {tm : Tm} {L : List AObj} : Tr P N ol [] tm L [] tm L
  | go {o : Oper} {r : List Oper} {tm tm1 tm2 : Tm} {L L1 L2 : List AObj} {e : Eff} {x : AV} {es : List Ent} (hg : guardIs ol o tm true) (hD : Does P o.op o.type L L.length (o.op.operands.toList.map (evAV tm)) e x)
      (hL : hp L1 = appN L.length e.news (appW e.ws (hp L))) (hle : L.length ≤ L1.length) (htm : ∀ j, lk tm1 j = if o.dst = some j then x else lk tm j) (h : Tr P N ol r tm1 L1 es tm2 L2) : Tr P N ol (o :: r) tm L (⟨e, L.length, x⟩ :: es) tm2 L2
  | skip {o : Oper} {r : List Oper} {tm tm1 tm2 : Tm} {L L2 : List AObj} {es : List Ent} (hg : guardIs ol o tm false) (htm : ∀ j, lk tm1 j = if o.dst = some j then skipAV else lk tm j) (h : Tr P N ol r tm1 L es tm2 L2) : Tr P N ol (o :: r) tm L (⟨e0, L.length, skipAV⟩ :: es) tm2 L2
theorem Tr.same {P : Program} {N : Nat} {ol l : List Oper} {tm tm0 tm' : Tm} {L L' : List AObj} {es : List Ent} (hs : SameTm tm tm0) (h : Tr P N ol l tm0 L es tm' L') (hl : l ≠ [] := by simp) : Tr P N ol l tm L es tm' L' := by
  cases h with
  | nil => exact absurd rfl hl
  | go hg hD hL hle htm h =>
    refine .go ?_ ?_ hL hle (fun j => by rw [htm j, hs j]) h
    · rcases hg with h | ⟨j, want, p, d, b, h1, h2, h3, h4, h5⟩
      · exact .inl h
      · exact .inr ⟨j, want, p, d, b, h1, h2, h3, by rw [← hs d]; exact h4, h5⟩
    · have : ∀ x, evAV tm x = evAV tm0 x := fun x => by cases x <;> first | exact (hs _).symm | rfl
      rw [funext this]; exact hD
  | skip hg htm h =>
    refine .skip ?_ (fun j => by rw [htm j, hs j]) h
    rcases hg with h | ⟨j, want, p, d, b, h1, h2, h3, h4, h5⟩
    · exact .inl h
    · exact .inr ⟨j, want, p, d, b, h1, h2, h3, by rw [← hs d]; exact h4, h5⟩
section
variable {P : Program} {w w' : World} {F F' : Nat → Prop} {ρ ρ' : Nat → Option Value} {L L' : List AObj} {T : TypeId → TI} {E : Nat → Bool} {N : Nat} {tm tm' : Tm} {a : Act} {ops : Array Oper}
theorem putK_out {dst : Option Tmp} {x : AV} {k : Tm → Prop} (hp : putK N dst x tm k) : ∃ tm', k tm' ∧ ∀ j, lk tm' j = if dst = some j then x else lk tm j := by
  unfold putK at hp
  split at hp
  · exact ⟨tm, hp, fun j => by simp⟩
  · split at hp
    · exact ⟨_, hp, fun j => by rw [lk_cons]; simp⟩
    · exact hp.elim
theorem drawOps_out (hT : T = tiOf P) (hE : ∀ g, E g = true → entersB P g = true) {ol : List Oper} {K : List Ent → Tm → List AObj → Prop} : ∀ {l : List Oper} {tm : Tm} {L : List AObj} {f : List Ent → List Ent}, drawOps P T E N ol l tm L f K →
    ∃ es tm' L', Tr P N ol l tm L es tm' L' ∧ K (f es) tm' L' ∧ L.length ≤ L'.length
  | [], tm, L, f, h => ⟨[], tm, L, .nil, h, Nat.le_refl _⟩
  | o :: r, tm, L, f, h => by
    have h : drawStep P T E N ol o (drawOps P T E N ol r) tm L f K := h
    unfold drawStep at h
    obtain ⟨tm0, hs, h⟩ := gvK_out h
    rcases h with ⟨hg, h⟩ | ⟨hg, h⟩
    · obtain ⟨e, x, h1, h2⟩ := opK_out hT hE h
      obtain ⟨L', h3, h4, h5⟩ := applyK_out (natK_iff.1 h1)
      obtain ⟨tm', h6, h7⟩ := putK_out h3
      obtain ⟨es, tm2, L2, h8, h9, h10⟩ := drawOps_out hT hE (l := r) h6
      exact ⟨_, _, _, .same hs (.go hg h2 h4 h5 h7 h8), h9, by omega⟩
    · obtain ⟨tm', h6, h7⟩ := putK_out (natK_iff.1 h)
      obtain ⟨es, tm2, L2, h8, h9, h10⟩ := drawOps_out hT hE (l := r) h6
      exact ⟨_, _, _, .same hs (.skip hg h7 h8), h9, h10⟩
/-- What stands at operation i. -/
theorem Tr.at_ {ol : List Oper} {l : List Oper} {tm tm' : Tm} {L L' : List AObj} {es : List Ent} (h : Tr P N ol l tm L es tm' L') : ∀ {i : Nat} {o : Oper}, l[i]? = some o →
    ∃ tmi Li x, Tr P N ol (l.take i) tm L (es.take i) tmi Li ∧ es[i]? = some x ∧ x.n = Li.length ∧ ((guardIs ol o tmi true ∧ Does P o.op o.type Li Li.length (o.op.operands.toList.map (evAV tmi)) x.e x.r) ∨ (guardIs ol o tmi false ∧ x.e = e0 ∧ x.r = skipAV)) := by
  induction h with
  | nil => intro i o h; simp at h
  | go hg hD hL hle htm h ih =>
    intro i o ho
    cases i with
    | zero => simp at ho; subst ho; exact ⟨_, _, _, .nil, rfl, rfl, .inl ⟨hg, hD⟩⟩
    | succ i =>
      obtain ⟨tmi, Li, x, h1, h2, h3, h4⟩ := ih (by simpa using ho)
      exact ⟨tmi, Li, x, by simpa using Tr.go hg hD hL hle htm h1, by simpa using h2, h3, h4⟩
  | skip hg htm h ih =>
    intro i o ho
    cases i with
    | zero => simp at ho; subst ho; exact ⟨_, _, _, .nil, rfl, rfl, .inr ⟨hg, rfl, rfl⟩⟩
    | succ i =>
      obtain ⟨tmi, Li, x, h1, h2, h3, h4⟩ := ih (by simpa using ho)
      exact ⟨tmi, Li, x, by simpa using Tr.skip hg htm h1, by simpa using h2, h3, h4⟩
theorem Tr.length {ol : List Oper} {l : List Oper} {tm tm' : Tm} {L L' : List AObj} {es : List Ent} (h : Tr P N ol l tm L es tm' L') : es.length = l.length := by
  induction h with
  | nil => rfl
  | go _ _ _ _ _ _ ih => simp [ih]
  | skip _ _ _ ih => simp [ih]
theorem Tr.heap {ol : List Oper} {l : List Oper} {tm tm' : Tm} {L L' : List AObj} {es : List Ent} (h : Tr P N ol l tm L es tm' L') : ∀ (i : Nat), hp L' = hS es i (fun _ => true) (hp L) := by
  induction h with
  | nil => intro i; rfl
  | go hg hD hL hle htm h ih => intro i; rw [ih (i + 1), hS, if_pos rfl, hL]; rfl
  | skip hg htm h ih => intro i; rw [ih (i + 1), hS, if_pos rfl]; rfl
theorem hS_take {k : Nat} : ∀ (es : List Ent) (i j : Nat) (H : Hp), hS (es.take i) j (fun _ => true) H k = hS es j (fun m => decide (m < j + i)) H k
  | [], i, j, H => by simp [hS]
  | x :: r, 0, j, H => by
    rw [List.take_zero]
    exact (hS_same (es := x :: r) (l := fun m => decide (m < j + 0)) (l' := fun _ => false) rfl (fun m y _ _ => by simp)).trans (by
      have nul : ∀ (es : List Ent) (i : Nat) (H : Hp), hS es i (fun _ => false) H = H := by
        intro es
        induction es with
        | nil => intro i H; rfl
        | cons z es ih => intro i H; rw [hS, if_neg (by simp), ih]
      rw [nul]; rfl) |>.symm
  | x :: r, i + 1, j, H => by
    rw [List.take_succ_cons, hS, hS, if_pos rfl, if_pos (by simp), hS_take r i (j + 1) _]
    refine hS_same rfl fun m y _ _ => ?_
    simp; omega
/-- What the operations up to now have written to a slot. -/
def lookE : List Oper → List Ent → Nat → Option AV
  | o :: os, x :: es, k => match o.dst with
    | some d => if d = k then some x.r else lookE os es k
    | none => lookE os es k
  | _, _, _ => none
theorem lookE_none : ∀ (os : List Oper) (es : List Ent) (k : Nat), (∀ o ∈ os, o.dst ≠ some k) → lookE os es k = none
  | [], _, _, _ => rfl
  | _ :: _, [], _, _ => rfl
  | o :: os, x :: es, k, h => by
    have h1 := h o (List.mem_cons_self ..)
    rw [lookE]
    cases hd : o.dst with
    | none => exact lookE_none os es k fun p hp => h p (List.mem_cons_of_mem _ hp)
    | some d =>
      simp only
      rw [if_neg (fun e => h1 (by rw [hd, e]))]
      exact lookE_none os es k fun p hp => h p (List.mem_cons_of_mem _ hp)
theorem Tr.slots {ol : List Oper} {l : List Oper} {tm tm' : Tm} {L L' : List AObj} {es : List Ent} (h : Tr P N ol l tm L es tm' L') : dstsOk l N = true → ∀ k, lk tm' k = match lookE l es k with | some r => r | none => lk tm k := by
  have one : ∀ {o : Oper} {r : List Oper} {tm tm1 : Tm} {tm2 : Tm} {x : Ent} {es : List Ent}, (∀ j, lk tm1 j = if o.dst = some j then x.r else lk tm j) → (dstsOk r N = true → ∀ k, lk tm2 k = match lookE r es k with | some r => r | none => lk tm1 k) → dstsOk (o :: r) N = true → ∀ k, lk tm2 k = match lookE (o :: r) (x :: es) k with | some r => r | none => lk tm k := by
    intro o r tm tm1 tm2 x es htm ih hd k
    simp only [dstsOk, Bool.and_eq_true] at hd
    rw [ih hd.2 k, lookE]
    cases hdst : o.dst with
    | none =>
      simp only
      have := htm k
      rw [hdst] at this
      simp at this
      rw [this]
    | some d =>
      simp only
      have h1 := hd.1
      rw [hdst] at h1
      simp only [Bool.and_eq_true, List.all_eq_true] at h1
      by_cases e : d = k
      · subst e
        rw [if_pos rfl, lookE_none r es d (fun p hp => by simpa using h1.2 p hp)]
        simp only
        have := htm d
        rw [hdst, if_pos rfl] at this
        exact this
      · rw [if_neg e]
        have := htm k
        rw [hdst, if_neg (fun c => e (by injection c))] at this
        rw [this]
  induction h with
  | nil => intro _ k; rfl
  | go hg hD hL hle htm h ih => intro hd k; exact one (x := ⟨_, _, _⟩) htm ih hd k
  | skip hg htm h ih => intro hd k; exact one (x := ⟨_, _, _⟩) htm ih hd k
/-- Both look at one place. -/
theorem look_both : ∀ (os : List Oper) (es : List Ent) (vs : List Value) (k : Nat), es.length = os.length → vs.length = os.length → (lookE os es k = none ∧ lookV os vs k = none) ∨ ∃ (j : Nat) (o : Oper) (x : Ent) (v : Value), os[j]? = some o ∧ o.dst = some k ∧ es[j]? = some x ∧ vs[j]? = some v ∧ lookE os es k = some x.r ∧ lookV os vs k = some v
  | [], _, _, _, _, _ => .inl ⟨rfl, rfl⟩
  | _ :: _, [], _, _, h, _ => by simp at h
  | _ :: _, _ :: _, [], _, _, h => by simp at h
  | o :: os, x :: es, v :: vs, k, h1, h2 => by
    have ih := look_both os es vs k (by simpa using h1) (by simpa using h2)
    have next : lookE (o :: os) (x :: es) k = lookE os es k → lookV (o :: os) (v :: vs) k = lookV os vs k → (lookE (o :: os) (x :: es) k = none ∧ lookV (o :: os) (v :: vs) k = none) ∨ ∃ (j : Nat) (o_1 : Oper) (x_1 : Ent) (v_1 : Value), (o :: os)[j]? = some o_1 ∧ o_1.dst = some k ∧ (x :: es)[j]? = some x_1 ∧ (v :: vs)[j]? = some v_1 ∧ lookE (o :: os) (x :: es) k = some x_1.r ∧ lookV (o :: os) (v :: vs) k = some v_1 := by
      intro e1 e2
      rw [e1, e2]
      rcases ih with h | ⟨j, p, y, u, q1, q2, q3, q4, q5, q6⟩
      · exact .inl h
      · exact .inr ⟨j + 1, p, y, u, by simpa using q1, q2, by simpa using q3, by simpa using q4, q5, q6⟩
    cases hd : o.dst with
    | none => exact next (by rw [lookE, hd]) (by rw [lookV, hd])
    | some d =>
      by_cases e : d = k
      · subst e
        exact .inr ⟨0, o, x, v, rfl, hd, rfl, rfl, by rw [lookE, hd]; simp, by rw [lookV, hd]; simp⟩
      · exact next (by rw [lookE, hd]; simp [e]) (by rw [lookV, hd]; simp [e])
/-- What drawn regions need of the checks. -/
theorem flow_operand (hok : flowOk ops = true) {i j : Nat} {o p : Oper} {k : Nat} (hi : ops[i]? = some o) (hj : ops[j]? = some p) (hd : p.dst = some k) (hlt : j < i) (hx : Operand.tmp k ∈ o.op.operands.toList) : ∃ e ∈ o.after, e.on = j ∧ Region.binds .any e = true := by
  have hil := (Array.getElem?_eq_some_iff.1 hi).1
  have hjl := (Array.getElem?_eq_some_iff.1 hj).1
  have h := List.all_eq_true.1 hok i (List.mem_range.2 hil)
  simp only [hi, Bool.and_eq_true] at h
  have h2 := List.all_eq_true.1 h.2 j (List.mem_range.2 hjl)
  simp only [hj, hd, Bool.and_eq_true, Bool.or_eq_true, Bool.not_eq_true'] at h2
  rcases h2.2 with h3 | h3
  · have h4 := Array.any_eq_false'.1 h3 (.tmp k) (by simpa using hx)
    simp at h4
  · rw [if_pos hlt] at h3
    obtain ⟨e, he, hb⟩ := Array.any_eq_true'.1 h3
    simp only [Bool.and_eq_true, beq_iff_eq] at hb
    exact ⟨e, he, hb.1, hb.2⟩
theorem flow_guard (hok : flowOk ops = true) {i g : Nat} {o : Oper} {b : Bool} (hi : ops[i]? = some o) (hg : o.guard = some (g, b)) : g < i ∧ ∃ e ∈ o.after, e.on = g ∧ Region.binds .any e = true := by
  have hil := (Array.getElem?_eq_some_iff.1 hi).1
  have h := List.all_eq_true.1 hok i (List.mem_range.2 hil)
  simp only [hi, Bool.and_eq_true, hg] at h
  obtain ⟨e, he, hb⟩ := Array.any_eq_true'.1 h.1.2
  simp only [Bool.and_eq_true, beq_iff_eq] at hb
  have h3 := Array.all_eq_true_iff_forall_mem.1 h.1.1.2 e he
  simp [hb.2, hb.1] at h3
  exact ⟨h3, e, he, hb.1, hb.2⟩
/-- **A region that draws its order.** -/
theorem draw_out {id : Nat} {es : List Ent} {Q : Exit → Act → World → Prop} (hm : P.follows .mixedOrders = true) (hreg : (flowOk ops && dstsOk ops.toList N && guardsOk ops) = true) (hTr : Tr P N ops.toList ops.toList tm L es tm' L') (hord : orderB ops.toList es = true)
    (En : Env F ρ (hp L) w) (Sl : Slots w F ρ N tm a) (hQ : ∀ a' w' F' ρ', Step F ρ (hp L) w F' ρ' (hp L') w' → Keep ρ ρ' → Env F' ρ' (hp L') w' → Slots w' F' ρ' N tm' a' → Q .normal a' w') : (Code.region id ops true).wp P Q a w := by
  have hreg' := hreg
  simp only [Bool.and_eq_true] at hreg'
  obtain ⟨⟨hok, hds⟩, hgd⟩ := hreg'
  have hN := Sl.2.1
  have hel : es.length = ops.size := by rw [hTr.length]; simp
  have masks : ∀ i j, ((ancMasks ops.toList []).getD j 0).testBit i = true → Anc ops i j := ancMasks_bit (fun j o h => by rw [List.length_nil, Nat.zero_add, ← Array.getElem?_toList]; exact h) fun i j h => by simp at h
  have confl : ∀ {i j : Nat} {x y : Ent}, i < j → es[i]? = some x → es[j]? = some y → conflict x y = true → Anc ops i j := fun {i j x y} hij hx hy hc => by
    have := pairsOk_get hord hij hx hy hc
    rw [Nat.zero_add, Nat.zero_add] at this
    exact masks _ _ this
  refine region_flow (Γ := { vs : List Value // vs.length = ops.size } × (Nat → Option Value) × (Nat → Prop)) hm (by rw [hN]; exact hreg) (fun γ => γ.1.1)
    (fun l γ w' => Step F ρ (hp L) w γ.2.2 γ.2.1 (hS es 0 l (hp L)) w' ∧ Keep ρ γ.2.1 ∧ Env γ.2.2 γ.2.1 (hS es 0 l (hp L)) w' ∧ (∀ i x v, es[i]? = some x → γ.1.1[i]? = some v → l i = true → RA w' γ.2.2 γ.2.1 x.r v) ∧ ∀ i, i < ops.size → l i = false → γ.1.1[i]? = some undef)
    (fun γ => γ.1.2) ⟨⟨List.replicate ops.size undef, by simp⟩, ρ, F⟩ ?_ ?_ ?_
  · have nul : ∀ (es : List Ent) (i : Nat) (H : Hp), hS es i (fun _ => false) H = H := by
      intro es
      induction es with
      | nil => intro i H; rfl
      | cons z es ih => intro i H; rw [hS, if_neg (by simp), ih]
    refine ⟨?_, Keep.refl _, ?_, (fun i x v _ _ h => by cases h), fun i hi _ => by simp [hi]⟩
    · rw [nul]; exact Step.drew _ _ _ _
    · rw [nul]; exact En.drew
  · -- each operation
    have all : ∀ (i : Nat) (o : Oper), ops.toList[i]? = some o → Owes P ops (fun γ : { vs : List Value // vs.length = ops.size } × (Nat → Option Value) × (Nat → Prop) => γ.1.1) a (fun l γ w' => Step F ρ (hp L) w γ.2.2 γ.2.1 (hS es 0 l (hp L)) w' ∧ Keep ρ γ.2.1 ∧ Env γ.2.2 γ.2.1 (hS es 0 l (hp L)) w' ∧ (∀ i x v, es[i]? = some x → γ.1.1[i]? = some v → l i = true → RA w' γ.2.2 γ.2.1 x.r v) ∧ ∀ i, i < ops.size → l i = false → γ.1.1[i]? = some undef) i o := by
      intro i o ho l γ w1 hG hli hdeps hcl
      obtain ⟨⟨vs, hvl⟩, ρ1, F1⟩ := γ
      obtain ⟨S1, K1, E1, R1, U1⟩ := hG
      simp only at S1 K1 E1 R1 U1 ⊢
      have hi : ops[i]? = some o := by rw [← Array.getElem?_toList]; exact ho
      have hil := (Array.getElem?_eq_some_iff.1 hi).1
      obtain ⟨tmi, Li, x, hTi, hx, hxn, hdo⟩ := hTr.at_ ho
      have hds' := dstsOk_take ops.toList N i hds
      have hslots := hTi.slots hds'
      -- the heap as the text has it at i
      have hLi : ∀ k, hp Li k = hS es 0 (fun m => decide (m < i)) (hp L) k := fun k => by
        rw [hTi.heap 0, hS_take es i 0]; simp
      have agree : ∀ k, uses x k = true → hS es 0 l (hp L) k = hp Li k := by
        intro k hk
        rw [hLi]
        refine hS_same rfl fun j y hy ht => ?_
        rw [Nat.zero_add]
        rcases Nat.lt_trichotomy j i with q | q | q
        · rw [(confl q hy hx (conflict_of (.inl ⟨ht, hk⟩))).ready hcl hi hdeps]
          simp [q]
        · subst q; rw [hli]; simp
        · have han := confl q hx hy (conflict_of (.inr ⟨ht, hk⟩))
          have : l j = false := by
            cases hlj : l j with
            | false => rfl
            | true => rw [han.listed hcl hlj] at hli; cases hli
          rw [this]; simp; omega
      have after : hS es 0 (updL l i) (hp L) = Go.Proofs.Ytgidaifoiljgoaa.app x (hS es 0 l (hp L)) := by
        funext k
        cases ht : touches x k with
        | false =>
          rw [app_not ht]
          refine hS_same rfl fun j y hy hty => ?_
          rw [Nat.zero_add]
          unfold updL
          rw [if_neg]
          intro e
          subst e
          rw [hx] at hy; injection hy with hy; subst hy
          rw [ht] at hty; cases hty
        | true =>
          refine hS_last hx ht (by simp [updL]) fun m y hm' hy hty => ?_
          rw [Nat.zero_add]
          have han := confl hm' hx hy (conflict_of (.inl ⟨ht, by unfold uses; rw [hty]; rfl⟩))
          unfold updL
          rw [if_neg (by omega)]
          cases hlm : l m with
          | false => rfl
          | true => rw [han.listed hcl hlm] at hli; cases hli
      -- the operands
      have slot : ∀ k, (∀ j p, j < i → ops[j]? = some p → p.dst = some k → l j = true) → RA w1 F1 ρ1 (lk tmi k) (valOf (ops.toList.take i) vs a (.tmp k)) := by
        intro k hk
        rw [hslots k]
        have hb := look_both (ops.toList.take i) (es.take i) (vs.take i) k (by simp; omega) (by simp; omega)
        have hvt : ∀ (os : List Oper) (vs : List Value) (n k : Nat), os.length ≤ n → lookV os (vs.take n) k = lookV os vs k := by
          intro os
          induction os with
          | nil => intro vs n k _; rfl
          | cons o os ih =>
            intro vs n k hn
            cases n with
            | zero => simp at hn
            | succ n =>
              cases vs with
              | nil => rfl
              | cons v vs =>
                rw [List.take_succ_cons, lookV, lookV, ih vs n k (by simpa using hn)]
        rw [hvt _ _ _ _ (by simp; omega)] at hb
        simp only [valOf]
        rcases hb with ⟨h1, h2⟩ | ⟨j, p, y, u, h1, h2, h3, h4, h5, h6⟩
        · rw [h1, h2]
          exact S1.ra En K1 (Sl.1 k)
        · rw [h5, h6]
          have hji : j < i := by
            have := (List.getElem?_eq_some_iff.1 h1).1
            simp at this; omega
          rw [List.getElem?_take_of_lt hji] at h1 h3 h4
          refine R1 j y u h3 h4 (hk j p hji ?_ h2)
          rw [← Array.getElem?_toList]; exact h1
      have oper : ∀ y ∈ o.op.operands.toList, RA w1 F1 ρ1 (evAV tmi y) (valOf (ops.toList.take i) vs a y) := by
        intro y hy
        cases y with
        | tmp k =>
          refine slot k fun j p hj hp hd => ?_
          obtain ⟨e, he, h1, h2⟩ := flow_operand hok hi hp hd hj hy
          subst h1
          exact hdeps e he h2
        | const v => exact const_rep
        | global g => exact .d (.v _)
        | func f => exact .fn .nil .nil
      have want : ∀ g, guardIs ops.toList o tmi g → wantedV ops.toList vs o = g := by
        rintro g (⟨h1, rfl⟩ | ⟨j, want, p, d, b, h1, h2, h3, h4, rfl⟩)
        · simp [wantedV, h1]
        · obtain ⟨hji, e, he, h5, h6⟩ := flow_guard hok hi h1
          have hlj : l j = true := by rw [← h5]; exact hdeps e he h6
          have hjl : j < es.length := by omega
          have hvj : j < vs.length := by omega
          have hR := R1 j es[j] vs[j] (List.getElem?_eq_getElem hjl) (List.getElem?_eq_getElem hvj) hlj
          -- the entry of the guard is what stands in its slot
          have hle : lookE (ops.toList.take i) (es.take i) d = some es[j].r := by
            have hb := look_both (ops.toList.take i) (es.take i) (vs.take i) d (by simp; omega) (by simp; omega)
            rcases hb with ⟨g1, _⟩ | ⟨m, q, y, u, g1, g2, g3, g4, g5, g6⟩
            · have hv := lookV_at (ops.toList.take i) (vs.take i) N j p d hds' (by rw [List.getElem?_take_of_lt hji]; exact h2) h3
              have hb2 := look_both (ops.toList.take i) (es.take i) (vs.take i) d (by simp; omega) (by simp; omega)
              rcases hb2 with ⟨_, g2⟩ | ⟨_, _, _, _, _, _, _, _, g5, _⟩
              · rw [g2, List.getElem?_take_of_lt hji, List.getElem?_eq_getElem hvj] at hv; cases hv
              · rw [g1] at g5; cases g5
            · have hmj : m = j := by
                have hm1 : m < i := by have := (List.getElem?_eq_some_iff.1 g1).1; simp at this; omega
                rw [List.getElem?_take_of_lt hm1] at g1
                have uniq : ∀ (os : List Oper) (m j : Nat) (q p : Oper), dstsOk os N = true → os[m]? = some q → os[j]? = some p → q.dst = some d → p.dst = some d → m = j := by
                  intro os
                  induction os with
                  | nil => intro m j q p _ h; simp at h
                  | cons o os ih =>
                    intro m j q p hd hm hj hq hp
                    simp only [dstsOk, Bool.and_eq_true] at hd
                    have far : ∀ (m : Nat) (q : Oper), os[m]? = some q → q.dst = some d → o.dst = some d → False := by
                      intro m q hm hq ho
                      have h1 := hd.1
                      rw [ho] at h1
                      simp only [Bool.and_eq_true, List.all_eq_true] at h1
                      have := h1.2 q (List.mem_of_getElem? hm)
                      rw [hq] at this
                      simp at this
                    cases m with
                    | zero =>
                      cases j with
                      | zero => rfl
                      | succ j =>
                        simp at hm hj
                        subst hm
                        exact (far j p hj hp hq).elim
                    | succ m =>
                      cases j with
                      | zero =>
                        simp at hm hj
                        subst hj
                        exact (far m q hm hq hp).elim
                      | succ j => rw [ih m j q p hd.2 (by simpa using hm) (by simpa using hj) hq hp]
                exact uniq _ m j q p hds g1 h2 g2 h3
              subst hmj
              rw [List.getElem?_take_of_lt hji, List.getElem?_eq_getElem hjl] at g3
              injection g3 with g3
              rw [g5, g3]
          have h7 := hslots d
          rw [hle, h4] at h7
          simp only at h7
          rw [← h7] at hR
          have h8 := hR.v_out
          unfold wantedV
          rw [h1]
          simp only [List.getElem?_eq_getElem hvj, h8]
          cases b <;> first | rfl | (simp [boolOf]; done)
      rcases hdo with ⟨hg, hD⟩ | ⟨hg, hxe, hxr⟩
      · have hwt := want true hg
        have hr := hD o (hS es 0 l (hp L)) F1 ρ1 w1 (valOf (ops.toList.take i) vs a) rfl rfl E1 (fun k hk => by
            rw [agree k (by unfold uses; rw [Bool.or_eq_true]; right; rw [List.any_eq_true]; exact ⟨k, hk, by simp⟩)]; rfl)
          (fun k hk => by
            rw [agree _ (by unfold uses touches; rw [hxn]; simp [Nat.ble_eq, Nat.blt_eq]; left; right; omega)]
            exact List.getElem?_eq_none (by omega))
          (by
            have : ∀ (os : List Operand), (∀ y ∈ os, RA w1 F1 ρ1 (evAV tmi y) (valOf (ops.toList.take i) vs a y)) → RAs w1 F1 ρ1 (os.map (evAV tmi)) (os.map (valOf (ops.toList.take i) vs a)) := by
              intro os
              induction os with
              | nil => intro _; exact .nil
              | cons y os ih => intro h; exact .cons (h y (List.mem_cons_self ..)) (ih fun z hz => h z (List.mem_cons_of_mem _ hz))
            exact this _ oper)
        have post : ∀ v w2, Post F1 ρ1 (hS es 0 l (hp L)) w1 (appN Li.length x.e.news (appW x.e.ws (hS es 0 l (hp L)))) x.r v w2 →
            ∃ γ' : { vs : List Value // vs.length = ops.size } × (Nat → Option Value) × (Nat → Prop), SameV (fun γ : { vs : List Value // vs.length = ops.size } × (Nat → Option Value) × (Nat → Prop) => γ.1.1) l (⟨⟨vs, hvl⟩, ρ1, F1⟩) γ' ∧ (o.dst = none ∨ γ'.1.1[i]? = some v) ∧
              (Step F ρ (hp L) w γ'.2.2 γ'.2.1 (hS es 0 (updL l i) (hp L)) w2 ∧ Keep ρ γ'.2.1 ∧ Env γ'.2.2 γ'.2.1 (hS es 0 (updL l i) (hp L)) w2 ∧ (∀ j y u, es[j]? = some y → γ'.1.1[j]? = some u → updL l i j = true → RA w2 γ'.2.2 γ'.2.1 y.r u) ∧ ∀ j, j < ops.size → updL l i j = false → γ'.1.1[j]? = some undef) := by
          rintro v w2 ⟨F2, ρ2, S2, K2, E2, R2⟩
          have hH : appN Li.length x.e.news (appW x.e.ws (hS es 0 l (hp L))) = hS es 0 (updL l i) (hp L) := by
            rw [after, ← hxn]; rfl
          rw [hH] at S2 E2
          refine ⟨⟨⟨vs.set i v, by simp [hvl]⟩, ρ2, F2⟩, ?_, .inr (List.getElem?_set_self (by omega)), S1.trans S2, K1.trans K2, E2, fun j y u hy hu hlj => ?_, fun j hj hlj => ?_⟩
          · exact SameV.set v hli rfl
          · by_cases e : j = i
            · subst e
              rw [hx] at hy; injection hy with hy; subst hy
              simp only at hu
              rw [List.getElem?_set_self (by omega)] at hu
              injection hu with hu
              rw [← hu]; exact R2
            · have hlj' : l j = true := by unfold updL at hlj; rw [if_neg e] at hlj; exact hlj
              simp only at hu
              rw [List.getElem?_set_ne (Ne.symm e)] at hu
              exact S2.ra E1 K2 (R1 j y u hy hu hlj')
          · have hne : j ≠ i := fun e => by subst e; simp [updL] at hlj
            have hlj' : l j = false := by unfold updL at hlj; rw [if_neg hne] at hlj; exact hlj
            simp only
            rw [List.getElem?_set_ne (Ne.symm hne)]
            exact U1 j hj hlj'
        unfold StepV
        simp only
        rw [if_pos hwt]
        unfold Runs at hr
        split at hr
        · rename_i v w2 hrun
          obtain ⟨γ', h1, h2, h3⟩ := post v w2 hr
          exact .inl ⟨v, w2, γ', hrun, h1, h2, h3⟩
        · rename_i w2 hrun
          obtain ⟨γ', h1, h2, h3⟩ := post undef w2 hr
          exact .inr (.inl ⟨w2, γ', hrun, h1, h2, h3⟩)
        · rename_i f args w2 hrun
          refine .inr (.inr ⟨f, args, w2, hrun, hr.mono ?_⟩)
          rintro en w3 ⟨v, rfl, hp⟩
          obtain ⟨γ', h1, h2, h3⟩ := post v w3 hp
          exact ⟨v, γ', rfl, h1, h2, h3⟩
        · exact hr.elim
      · have hwt := want false hg
        have hself : hS es 0 (updL l i) (hp L) = hS es 0 l (hp L) := by
          rw [after]
          unfold Go.Proofs.Ytgidaifoiljgoaa.app
          rw [hxe]; rfl
        unfold StepV
        simp only
        rw [if_neg (by rw [hwt]; simp)]
        refine ⟨.inr (U1 i hil hli), by rw [hself]; exact S1, K1, by rw [hself]; exact E1, fun j y u hy hu hlj => ?_, fun j hj hlj => ?_⟩
        · by_cases e : j = i
          · subst e
            rw [hx] at hy; injection hy with hy; subst hy
            have hu : vs[j]? = some u := hu
            rw [U1 j hil hli] at hu
            injection hu with hu
            rw [hxr, ← hu]; exact .d (.v undef)
          · exact R1 j y u hy hu (by unfold updL at hlj; rw [if_neg e] at hlj; exact hlj)
        · have hne : j ≠ i := fun e => by subst e; simp [updL] at hlj
          exact U1 j hj (by unfold updL at hlj; rw [if_neg hne] at hlj; exact hlj)
    have stepsAll : ∀ (os : List Oper) (n : Nat), (∀ (i : Nat) (o : Oper), os[i]? = some o → ops.toList[n + i]? = some o) → ∀ p : Nat → Oper → Prop, (∀ (i : Nat) (o : Oper), ops.toList[i]? = some o → p i o) → StepsAll p n os := by
      intro os
      induction os with
      | nil => intro n _ p _; trivial
      | cons o os ih => intro n h p hp; exact ⟨hp n o (by simpa using h 0 o rfl), ih (n + 1) (fun i q hq => by have := h (i + 1) q (by simpa using hq); rwa [show n + (i + 1) = n + 1 + i by omega] at this) p hp⟩
    exact stepsAll ops.toList 0 (fun i o h => by rwa [Nat.zero_add]) _ all
  · rintro l ⟨⟨vs, hvl⟩, ρ1, F1⟩ w1 hl ⟨S1, K1, E1, R1, _⟩
    simp only at S1 K1 E1 R1 ⊢
    have hheap : hS es 0 l (hp L) = hp L' := by
      rw [hTr.heap 0]
      funext k
      exact hS_same rfl fun j y hy _ => by rw [Nat.zero_add, hl j (by have := (List.getElem?_eq_some_iff.1 hy).1; omega)]
    rw [hheap] at S1 E1
    refine hQ _ w1 F1 ρ1 S1 K1 E1 ⟨fun k => ?_, by rw [(putAll_defs _ _ _).2]; exact hN, by rw [(putAll_defs _ _ _).1]; exact Sl.2.2⟩
    rw [hTr.slots hds k]
    have hb := look_both ops.toList es vs k (by simp; omega) (by simp; omega)
    have hpl := putAll_look ops.toList vs a k (by rw [hN]; exact hds)
    rw [Array.getD_eq_getD_getElem?, hpl]
    rcases hb with ⟨h1, h2⟩ | ⟨j, p, y, u, h1, h2, h3, h4, h5, h6⟩
    · rw [h1, h2]
      have := Sl.1 k
      rw [Array.getD_eq_getD_getElem?] at this
      exact S1.ra En K1 this
    · rw [h5, h6]
      exact R1 j y u h3 h4 (hl j (by have := (List.getElem?_eq_some_iff.1 h3).1; omega))
end
end Go.Proofs.Ytgidaifoiljgoaa
/- Code and functions in abstract values. No program is named here. -/
namespace Go.Proofs.Ytgidaifoiljgoaa
set_option linter.unusedSimpArgs false
set_option linter.unusedVariables false
open Go.RowKit
/-! ### less may be known -/
def deadB : List AObj → Nat → Bool
  | [], _ => true
  | .dead :: _, 0 => true
  | _ :: _, 0 => false
  | _ :: r, n + 1 => deadB r n
/-- An object that comes from nowhere: a nil slice. -/
def lateK : List AObj → List AObj → Nat → Prop
  | _ :: L, _ :: L', k + 1 => lateK L L' k
  | [], .sl _ [] :: _, 0 => True
  | [], _ :: L', k + 1 => lateK [] L' k
  | _, _, _ => False
/-- What is known as y may be known as x only: nothing, or the same; or a slice of the call's own is data from now on. -/
def wkA1 (L L' : List AObj) (y x : AV) : Prop :=
  match x with
  | .any => True
  | .d (.sl s rows) => fAV y fun y => match y with
    | .own i => deadB L' i = true ∧ getOK L i fun ob => ob = .sl s rows
    | .d (.v (.slice none 0 0)) => rows = []
    | y => y = .d (.sl s rows)
  | .own k => fAV y fun y => match y with
    | .own i => eqK i k True
    | .d (.v (.slice none 0 0)) => lateK L L' k
    | _ => False
  | x => fAV y fun y => y = x
/-- .. inside of a struct. -/
def wkDs (L L' : List AObj) : List AV → List D → Prop
  | [], [] => True
  | y :: ys, x :: xs => wkA1 L L' y (.d x) ∧ wkDs L L' ys xs
  | _, _ => False
def wkA (L L' : List AObj) (y x : AV) : Prop :=
  match x with
  | .d (.agg ds) => fAV y fun y => match y with
    | .agg ys => wkDs L L' ys ds
    | y => y = .d (.agg ds)
  | x => wkA1 L L' y x
def wkAs (L L' : List AObj) : List AV → List AV → Prop
  | [], [] => True
  | y :: ys, x :: xs => wkA L L' y x ∧ wkAs L L' ys xs
  | _, _ => False
def wkT (L L' : List AObj) (tm : Tm) : Tm → Prop
  | [] => True
  | (s, x) :: r => wkA L L' (lk tm s) x ∧ wkT L L' tm r
def wkO (L L' : List AObj) (o o' : AObj) : Prop :=
  match o' with
  | .dead => True
  | .cells cs' => fO o fun o => match o with
    | .cells cs => wkAs L L' cs cs'
    | _ => False
  | o' => fO o fun o => o = o'
def wkL (L L' : List AObj) : List AObj → List AObj → Prop
  | _, [] => True
  | o :: r, o' :: r' => wkO L L' o o' ∧ wkL L L' r r'
  | [], .sl _ [] :: r' => wkL L L' [] r'
  | [], .dead :: r' => wkL L L' [] r'
  | [], _ :: _ => False
def tmLt (m : Nat) : Tm → Bool
  | [] => true
  | (_, x) :: r => AV.lt m x && tmLt m r
def Weak0 (k0 : Nat) (tm : Tm) (L : List AObj) (tm' : Tm) (L' : List AObj) : Prop :=
  (Nat.ble k0 L'.length && tmLt L'.length tm' && AObj.lts L'.length L') = true ∧ wkT L L' tm tm' ∧ wkL L L' L L'
/-- Two objects change their names. -/
def swN (a b j : Nat) : Nat := match Nat.beq j a with
  | true => b
  | false => match Nat.beq j b with
    | true => a
    | false => j
def setO (o : AObj) : Nat → List AObj → List AObj
  | _, [] => []
  | 0, _ :: r => o :: r
  | n + 1, x :: r => x :: setO o n r
def getO (L : List AObj) (n : Nat) : AObj := (L[n]?).getD .dead
def swL (a b : Nat) (L : List AObj) : List AObj := AObj.rns (swN a b) (setO (getO L a) b (setO (getO L b) a L))
def rnT (f : Nat → Nat) : Tm → Tm
  | [] => []
  | (s, x) :: r => (s, x.rn f) :: rnT f r
/-- An object goes on at a new place. -/
def mvN (a b j : Nat) : Nat := match Nat.beq j a with
  | true => b
  | false => j
def mvL (a : Nat) (L : List AObj) : List AObj := AObj.rns (mvN a L.length) (setO .dead a L ++ [getO L a])
/-- Objects from m on are forgotten. -/
def cutN (m i : Nat) (x : AV) : AV := match Nat.blt i m with
  | true => x
  | false => .any
mutual
def AV.cut (m : Nat) : AV → AV
  | .d x => .d x
  | .ptr i o => cutN m i (.ptr i o)
  | .own i => cutN m i (.own i)
  | .ep i s q g => cutN m i (.ep i s q g)
  | .fp xs => .fp xs
  | .agg xs => .agg (AV.cuts m xs)
  | .tup xs => .tup (AV.cuts m xs)
  | .fn g a b => .fn g (AV.cuts m a) (AV.cuts m b)
  | .mp i => cutN m i (.mp i)
  | .any => .any
def AV.cuts (m : Nat) : List AV → List AV
  | [] => []
  | x :: r => AV.cut m x :: AV.cuts m r
end
def AObj.cut (m : Nat) : AObj → AObj
  | .cells cs => .cells (AV.cuts m cs)
  | o => o
def cutL (m : Nat) : Nat → List AObj → List AObj
  | 0, _ => []
  | _, [] => []
  | n + 1, o :: r => o.cut m :: cutL m n r
def cutT (m : Nat) : Tm → Tm
  | [] => []
  | (s, x) :: r => (s, x.cut m) :: cutT m r
def swOk (k0 a b : Nat) (L : List AObj) : Bool := Nat.ble k0 a && Nat.ble k0 b && Nat.blt a L.length && Nat.blt b L.length
def WeakS (k0 : Nat) (tm : Tm) (L : List AObj) (tm' : Tm) (L' : List AObj) : List (Nat × Nat) → Prop
  | [] => Weak0 k0 tm L tm' L'
  | (a, b) :: r => match Nat.beq b L.length with
    | true => Nat.blt a L.length = true ∧ WeakS k0 (rnT (mvN a b) tm) (mvL a L) tm' L' r
    | false => match Nat.beq a b with
      | true => (Nat.ble k0 a && Nat.ble a L.length) = true ∧ WeakS k0 (cutT a tm) (cutL a a L) tm' L' r
      | false => swOk k0 a b L = true ∧ WeakS k0 (rnT (swN a b) tm) (swL a b L) tm' L' r
/-- .. and less is known; some objects have changed their names before. -/
def Weak (k0 : Nat) (tm : Tm) (L : List AObj) (tm' : Tm) (L' : List AObj) : Prop := ∃ sw, WeakS k0 tm L tm' L' sw
section
variable {P : Program} {w w' : World} {F F' : Nat → Prop} {ρ ρ' : Nat → Option Value} {L L' : List AObj} {T : TypeId → TI} {E : Nat → Bool} {N : Nat} {tm tm' : Tm} {a : Act} {ops : Array Oper}
mutual
theorem RA.low {m : Nat} (hρ : ∀ j h, j < m → ρ j = some h → ρ' j = some h) : ∀ (x : AV) {v : Value}, AV.lt m x = true → RA w F ρ x v → RA w F ρ' x v
  | .d x, v, _, h => by cases h with | d h => exact .d h
  | .ptr i o, v, l, h => by cases h with | ptr h => exact .ptr (hρ _ _ (by simpa [AV.lt, Nat.blt, Nat.succ_le_iff] using l) h)
  | .own i, v, l, h => by cases h with | own h => exact .own (hρ _ _ (by simpa [AV.lt, Nat.blt, Nat.succ_le_iff] using l) h)
  | .ep i s q g, v, l, h => by cases h with | ep h => exact .ep (hρ _ _ (by simpa [AV.lt, Nat.blt, Nat.succ_le_iff] using l) h)
  | .fp xs, v, _, h => by cases h with | fp hb h hc => exact .fp hb h hc
  | .agg xs, v, l, h => by cases h with | agg h h1 => exact .agg (RAs.low hρ xs (by simpa [AV.lt] using l) h) h1
  | .tup xs, v, l, h => by cases h with | tup h => exact .tup (RAs.low hρ xs (by simpa [AV.lt] using l) h)
  | .fn g a b, v, l, h => by simp [AV.lt] at l; cases h with | fn h h' => exact .fn (RAs.low hρ a l.1 h) (RAs.low hρ b l.2 h')
  | .mp i, v, l, h => by cases h with | mp h => exact .mp (hρ _ _ (by simpa [AV.lt, Nat.blt, Nat.succ_le_iff] using l) h)
  | .any, v, _, _ => .any v
theorem RAs.low {m : Nat} (hρ : ∀ j h, j < m → ρ j = some h → ρ' j = some h) : ∀ (xs : List AV) {vs : List Value}, AV.lts m xs = true → RAs w F ρ xs vs → RAs w F ρ' xs vs
  | [], vs, _, h => by cases h; exact .nil
  | x :: r, vs, l, h => by simp [AV.lts] at l; cases h with | cons h hr => exact .cons (RA.low hρ x l.1 h) (RAs.low hρ r l.2 hr)
end
theorem deadB_out : ∀ {l : List AObj} {i : Nat}, deadB l i = true → ∀ {o : AObj}, l[i]? = some o → o.live = false
  | [], _, _, o, h => by simp at h
  | .dead :: _, 0, _, o, h => by simp at h; subst h; rfl
  | .cells _ :: _, 0, hd, o, _ => by simp [deadB] at hd
  | .row _ :: _, 0, hd, o, _ => by simp [deadB] at hd
  | .sl _ _ :: _, 0, hd, o, _ => by simp [deadB] at hd
  | .obj _ :: _, 0, hd, o, _ => by simp [deadB] at hd
  | x :: r, i + 1, hd, o, h => deadB_out (l := r) (i := i) (by cases x <;> simpa [deadB] using hd) (by simpa using h)
theorem wkL_out : ∀ {l l' : List AObj}, wkL L L' l l' → ∀ (i : Nat) (o' : AObj), l'[i]? = some o' → (∃ o : AObj, l[i]? = some o ∧ wkO L L' o o') ∨ (l.length ≤ i ∧ ((∃ s, o' = .sl s []) ∨ o' = .dead))
  | _, [], _, i, o', h => by simp at h
  | [], .sl s [] :: r', h, 0, x, hx => by simp at hx; subst hx; exact .inr ⟨Nat.zero_le _, .inl ⟨s, rfl⟩⟩
  | [], .dead :: r', h, 0, x, hx => by simp at hx; subst hx; exact .inr ⟨Nat.zero_le _, .inr rfl⟩
  | [], .sl s [] :: r', h, i + 1, x, hx => (wkL_out (l := []) (l' := r') h i x (by simpa using hx)).elim (fun ⟨o, e, _⟩ => by simp at e) fun q => .inr ⟨Nat.zero_le _, q.2⟩
  | [], .dead :: r', h, i + 1, x, hx => (wkL_out (l := []) (l' := r') h i x (by simpa using hx)).elim (fun ⟨o, e, _⟩ => by simp at e) fun q => .inr ⟨Nat.zero_le _, q.2⟩
  | [], .sl s (q :: qs) :: r', h, _, _, _ => by simp [wkL] at h
  | [], .cells _ :: r', h, _, _, _ => by simp [wkL] at h
  | [], .row _ :: r', h, _, _, _ => by simp [wkL] at h
  | [], .obj _ :: r', h, _, _, _ => by simp [wkL] at h
  | o :: r, o' :: r', h, i, x, hx => by
    cases i with
    | zero => simp at hx; subst hx; exact .inl ⟨o, rfl, h.1⟩
    | succ i => exact (wkL_out (l := r) (l' := r') h.2 i x (by simpa using hx)).elim (fun ⟨o, e, q⟩ => .inl ⟨o, by simpa using e, q⟩) fun q => .inr ⟨by simp; omega, q.2⟩
theorem lateK_out : ∀ {L L' : List AObj} {k : Nat}, lateK L L' k → L.length ≤ k ∧ ∃ s, L'[k]? = some (.sl s [])
  | _ :: L, _ :: L', k + 1, h => by
    obtain ⟨h1, s, h2⟩ := lateK_out (L := L) (L' := L') (k := k) h
    exact ⟨by simp; exact h1, s, by simpa using h2⟩
  | [], .sl s [] :: _, 0, _ => ⟨Nat.zero_le _, s, rfl⟩
  | [], _ :: L', k + 1, h => by
    obtain ⟨_, s, h2⟩ := lateK_out (L := []) (L' := L') (k := k) (by simpa [lateK] using h)
    exact ⟨Nat.zero_le _, s, by simpa using h2⟩
  | [], [], _, h => by simp [lateK] at h
  | _ :: _, [], 0, h => by simp [lateK] at h
  | _ :: _, [], _ + 1, h => by simp [lateK] at h
  | _ :: _, _ :: _, 0, h => by simp [lateK] at h
  | [], .dead :: _, 0, h => by simp [lateK] at h
  | [], .cells _ :: _, 0, h => by simp [lateK] at h
  | [], .row _ :: _, 0, h => by simp [lateK] at h
  | [], .obj _ :: _, 0, h => by simp [lateK] at h
  | [], .sl _ (_ :: _) :: _, 0, h => by simp [lateK] at h
/-- The blocks that turn to data. -/
def frz (ρ : Nat → Option Value) (L L' : List AObj) (b : Nat) : Prop := ∃ i s rows h, L[i]? = some (.sl s rows) ∧ deadB L' i = true ∧ ρ i = some h ∧ blkOf h = some b
def rlow (ρ : Nat → Option Value) (n m : Nat) : Nat → Option Value := fun i => if i < m then (if i < n then ρ i else some (.slice none 0 0)) else none
theorem wkA1_out (En : Env F ρ (hp L) w) {y x : AV} {v : Value} (h : wkA1 L L' y x) (hl : AV.lt L'.length x = true) (hv : RA w F ρ y v) : RA w (fun b => F b ∨ frz ρ L L' b) (rlow ρ L.length L'.length) x v := by
  have low : ∀ {x : AV}, AV.lt L'.length x = true → RA w F ρ x v → RA w (fun b => F b ∨ frz ρ L L' b) (rlow ρ L.length L'.length) x v := fun {x} hl hv => by
    have := RA.low (ρ' := rlow ρ L.length L'.length) (m := L'.length) (fun j h hj hk => by
      unfold rlow
      rw [if_pos hj]
      rcases Nat.lt_or_ge j L.length with q | q
      · rw [if_pos q]; exact hk
      · rw [En.abs j (List.getElem?_eq_none q)] at hk; cases hk) x hl hv
    exact this.mono (fun _ _ => rfl) (fun _ h => .inl h) (fun _ _ h => h)
  unfold wkA1 at h
  split at h
  · exact .any v
  · rename_i s rows
    have h := fAV_iff.1 h
    split at h
    · rename_i i _
      obtain ⟨hd, h⟩ := h
      obtain ⟨ob, hob, e⟩ := getOK_out h
      subst e
      cases hv with | own hv =>
        rename_i A n c
        obtain ⟨hh, e1, ⟨vs, how, hra, hs⟩, e3⟩ := En.rep i _ hob rfl
        rw [hv] at e1; injection e1 with e1; subst e1
        obtain ⟨A', c', he, h1, h2, hrd⟩ := how.form
        injection he with q1 q2 q3
        subst q1 q2 q3
        refine .d (.sl rfl hs h1 h2 (hra.mono (fun _ _ => rfl) fun _ h => .inl h) fun hp => ?_)
        have hsz : vs.length = rows.length * s := hrd.1
        rcases Nat.eq_zero_or_pos s with hs0 | hs0
        · have hvs : vs = [] := List.eq_nil_of_length_eq_zero (by rw [hsz, hs0]; simp)
          subst hvs
          obtain ⟨g, off, cap, he, _⟩ := how.open_ hp
          injection he with q1 _ _
          subst q1
          exact ⟨g, off, rfl, .inr ⟨i, s, rows, _, hob, hd, hv, rfl⟩, fun j hj => by simp at hj⟩
        · obtain ⟨b, off, rfl, hb, hc⟩ := hrd.2 hp
          exact ⟨b, off, rfl, .inr ⟨i, s, rows, _, hob, hd, hv, rfl⟩, hc⟩
    · subst h
      have := hv.v_out
      subst this
      exact .d (.sl (cs := []) rfl (fun r hr => by simp at hr) (Nat.le_refl _) (Nat.zero_le _) .nil fun hp => absurd hp (Nat.lt_irrefl _))
    · subst h; exact low hl hv
  · rename_i k
    have h := fAV_iff.1 h
    split at h
    · obtain ⟨rfl, _⟩ := eqK_out h; exact low hl hv
    · obtain ⟨h1, s, h2⟩ := lateK_out h
      have := hv.v_out
      subst this
      refine .own ?_
      unfold rlow
      rw [if_pos (List.getElem?_eq_some_iff.1 h2).1, if_neg (by omega)]
    · exact h.elim
  · have h := fAV_iff.1 h
    subst h; exact low hl hv
theorem wkDs_out (En : Env F ρ (hp L) w) : ∀ {ys : List AV} {xs : List D} {vs : List Value}, wkDs L L' ys xs → RAs w F ρ ys vs → (∀ c ∈ vs, c.oneCell' = true) → RDs w (fun b => F b ∨ frz ρ L L' b) xs vs
  | [], [], _, _, h, _ => by cases h; exact .nil
  | _ :: _, x :: xs, _, h, hv, h1 => by
    cases hv with | cons hv hr =>
      have := wkA1_out En (x := .d x) h.1 rfl hv
      cases this with | d q => exact .cons q (h1 _ (List.mem_cons_self ..)) (wkDs_out En h.2 hr fun c hc => h1 c (List.mem_cons_of_mem _ hc))
  | [], _ :: _, _, h, _, _ => h.elim
  | _ :: _, [], _, h, _, _ => h.elim
theorem wkA_out (En : Env F ρ (hp L) w) {y x : AV} {v : Value} (h : wkA L L' y x) (hl : AV.lt L'.length x = true) (hv : RA w F ρ y v) : RA w (fun b => F b ∨ frz ρ L L' b) (rlow ρ L.length L'.length) x v := by
  unfold wkA at h
  split at h
  · rename_i ds
    have h := fAV_iff.1 h
    split at h
    · cases hv with | agg hv h1 => exact .d (.agg (wkDs_out En h hv h1))
    · subst h
      cases hv with | d hv => exact .d (hv.mono (fun _ _ => rfl) fun _ h => .inl h)
  · exact wkA1_out En h hl hv
theorem wkAs_out (En : Env F ρ (hp L) w) : ∀ {ys xs : List AV} {vs : List Value}, wkAs L L' ys xs → AV.lts L'.length xs = true → RAs w F ρ ys vs → RAs w (fun b => F b ∨ frz ρ L L' b) (rlow ρ L.length L'.length) xs vs
  | [], [], _, _, _, h => by cases h; exact .nil
  | _ :: _, x :: xs, _, h, hl, hv => by
    simp [AV.lts] at hl
    cases hv with | cons hv hr => exact .cons (wkA_out En h.1 hl.1 hv) (wkAs_out En h.2 hl.2 hr)
  | [], _ :: _, _, h, _, _ => h.elim
  | _ :: _, [], _, h, _, _ => h.elim
theorem Env.weak (En : Env F ρ (hp L) w) (hle : AObj.lts L'.length L' = true) (h : wkL L L' L L') :
    Step F ρ (hp L) w (fun b => F b ∨ frz ρ L L' b) (rlow ρ L.length L'.length) (hp L') w ∧ Env (fun b => F b ∨ frz ρ L L' b) (rlow ρ L.length L'.length) (hp L') w := by
  have hget := wkL_out h
  -- an object of the new heap is an old one, or a nil slice
  have live : ∀ i o', L'[i]? = some o' → o'.live = true → (∃ o, L[i]? = some o ∧ wkO L L' o o' ∧ o.live = true ∧ i < L'.length ∧ i < L.length) ∨ (L.length ≤ i ∧ i < L'.length ∧ ∃ s, o' = .sl s []) := by
    intro i o' hi hl
    have hil := (List.getElem?_eq_some_iff.1 hi).1
    rcases hget i o' hi with ⟨o, h1, h2⟩ | ⟨h1, h2⟩
    · refine .inl ⟨o, h1, h2, ?_, hil, (List.getElem?_eq_some_iff.1 h1).1⟩
      unfold wkO at h2
      split at h2
      · cases hl
      · have h2 := fO_iff.1 h2
        split at h2
        · rfl
        · exact h2.elim
      · have h2 := fO_iff.1 h2
        subst h2; exact hl
    · rcases h2 with h2 | h2
      · exact .inr ⟨h1, hil, h2⟩
      · subst h2; cases hl
  have fb : ∀ b, frz ρ L L' b → b < w.heap.size ∧ Lv ρ (hp L) b := by
    rintro b ⟨i, s, rows, hh, h1, _, h3, h4⟩
    obtain ⟨h0, e1, _, e3⟩ := En.rep i _ h1 rfl
    rw [h3] at e1; injection e1 with e1; subst e1
    exact ⟨(e3 b h4).1, ⟨i, _, hh, h1, rfl, h3, h4⟩⟩
  have rl : ∀ i h, i < L.length → rlow ρ L.length L'.length i = some h → ρ i = some h := by
    intro i h hil hi
    unfold rlow at hi
    by_cases q : i < L'.length
    · rw [if_pos q, if_pos hil] at hi; exact hi
    · rw [if_neg q] at hi; cases hi
  have rn : ∀ i h, L.length ≤ i → rlow ρ L.length L'.length i = some h → blkOf h = none := by
    intro i h hil hi
    unfold rlow at hi
    by_cases q : i < L'.length
    · rw [if_pos q, if_neg (by omega)] at hi; injection hi with hi; subst hi; rfl
    · rw [if_neg q] at hi; cases hi
  refine ⟨⟨rfl, rfl, rfl, Nat.le_refl _, fun _ _ _ => rfl, fun _ h => .inl h, fun b hb => hb.elim .inl fun q => .inr (.inr (fb b q).2), fun b ⟨i, o', hh, h1, h2, h3, h4⟩ => ?_⟩, fun b hb => hb.elim (En.fb b) fun q => (fb b q).1, fun i hi => ?_, fun i o' hi hl => ?_, fun i j o o' hh hh' b e1 e2 l1 l2 r1 r2 b1 b2 => ?_⟩
  · rcases live i o' h1 h2 with ⟨o, q1, _, q3, _, q5⟩ | ⟨q1, _⟩
    · exact .inr ⟨i, o, hh, q1, q3, rl i hh q5 h3, h4⟩
    · rw [rn i hh q1 h3] at h4; cases h4
  · have := List.getElem?_eq_none_iff.1 hi
    unfold rlow
    rw [if_neg (by omega)]
  · rcases live i o' hi hl with ⟨o, q1, q2, q3, q4, q5⟩ | ⟨q1, q4, s, rfl⟩
    · obtain ⟨hh, e1, e2, e3⟩ := En.rep i o q1 q3
      refine ⟨hh, by unfold rlow; rw [if_pos q4, if_pos q5]; exact e1, ?_, fun b hb => ⟨(e3 b hb).1, fun q => q.elim (e3 b hb).2 ?_⟩⟩
      · unfold wkO at q2
        split at q2
        · trivial
        · rename_i cs'
          have q2 := fO_iff.1 q2
          split at q2
          · rename_i cs
            obtain ⟨b, t, vs, g1, g2, g3, g4⟩ := e2
            exact ⟨b, t, vs, g1, g2, wkAs_out En q2 (AObj.lts_get hle hi) g3, g4⟩
          · exact q2.elim
        · have q2 := fO_iff.1 q2
          subst q2
          have hk : ∀ cs, o ≠ .cells cs := fun cs e => by subst e; rename_i _ hne; exact hne cs rfl
          cases o with
          | cells cs => exact absurd rfl (hk cs)
          | dead => trivial
          | row xs => obtain ⟨b, t, vs, g1, g2, g3⟩ := e2; exact ⟨b, t, vs, g1, g2, g3.mono (fun _ _ => rfl) fun _ h => .inl h⟩
          | sl s rows => obtain ⟨vs, g1, g2, g3⟩ := e2; exact ⟨vs, g1, g2.mono (fun _ _ => rfl) fun _ h => .inl h, g3⟩
          | obj p => exact e2
      · rintro ⟨j, s, rows, h2, f1, f2, f3, f4⟩
        have : i = j := En.inj i j o _ hh h2 b q1 f1 q3 rfl e1 f3 hb f4
        subst this
        rw [deadB_out f2 hi] at hl; cases hl
    · exact ⟨.slice none 0 0, by unfold rlow; rw [if_pos q4, if_neg (by omega)], ⟨[], Ow.nil w 0 0 s, .nil, fun r hr => by simp at hr⟩, fun b hb => by cases hb⟩
  · rcases live i o e1 l1 with ⟨o2, q1, _, q3, _, q5⟩ | ⟨q1, _⟩
    · rcases live j o' e2 l2 with ⟨o3, g1, _, g3, _, g5⟩ | ⟨g1, _⟩
      · exact En.inj i j o2 o3 hh hh' b q1 g1 q3 g3 (rl _ _ q5 r1) (rl _ _ g5 r2) b1 b2
      · rw [rn j hh' g1 r2] at b2; cases b2
    · rw [rn i hh q1 r1] at b1; cases b1
theorem tmLt_lk {m : Nat} : ∀ {tm : Tm}, tmLt m tm = true → ∀ k, AV.lt m (lk tm k) = true
  | [], _, k => rfl
  | (s, x) :: r, h, k => by
    simp only [tmLt, Bool.and_eq_true] at h
    rw [lk_cons]
    split
    · exact h.1
    · exact tmLt_lk h.2 k
theorem wkT_lk : ∀ {tm' : Tm}, wkT L L' tm tm' → ∀ k, wkA L L' (lk tm k) (lk tm' k)
  | [], _, k => trivial
  | (s, x) :: r, h, k => by
    rw [lk_cons]
    split
    · rename_i e; subst e; exact h.1
    · exact wkT_lk h.2 k
variable {F0 : Nat → Prop} {ρ0 : Nat → Option Value} {H0 : Hp} {w0 : World} {k0 : Nat}
theorem swN_a {a b : Nat} : swN a b a = b := by unfold swN; rw [show Nat.beq a a = true by simp]
theorem swN_b {a b : Nat} : swN a b b = a := by
  unfold swN
  split
  · rename_i h; exact Nat.eq_of_beq_eq_true h
  · rw [show Nat.beq b b = true by simp]
theorem swN_ne {a b j : Nat} (h1 : j ≠ a) (h2 : j ≠ b) : swN a b j = j := by
  unfold swN
  split
  · rename_i h; exact absurd (Nat.eq_of_beq_eq_true h) h1
  · split
    · rename_i h; exact absurd (Nat.eq_of_beq_eq_true h) h2
    · rfl
theorem swN_two {a b j : Nat} : swN a b (swN a b j) = j := by
  by_cases h1 : j = a
  · subst h1; rw [swN_a, swN_b]
  · by_cases h2 : j = b
    · subst h2; rw [swN_b, swN_a]
    · rw [swN_ne h1 h2, swN_ne h1 h2]
theorem setO_length {o : AObj} : ∀ {n : Nat} {l : List AObj}, (setO o n l).length = l.length
  | _, [] => by simp [setO]
  | 0, _ :: r => rfl
  | n + 1, x :: r => by simp [setO, setO_length (n := n) (l := r)]
theorem setO_same {o : AObj} : ∀ {n : Nat} {l : List AObj}, n < l.length → (setO o n l)[n]? = some o
  | _, [], h => by simp at h
  | 0, _ :: r, _ => rfl
  | n + 1, x :: r, h => by simpa [setO] using setO_same (n := n) (l := r) (by simpa using h)
theorem setO_ne {o : AObj} : ∀ {n : Nat} {l : List AObj} {j : Nat}, j ≠ n → (setO o n l)[j]? = l[j]?
  | _, [], _, _ => by simp [setO]
  | 0, _ :: r, 0, h => absurd rfl h
  | 0, _ :: r, j + 1, _ => by simp [setO]
  | n + 1, x :: r, 0, _ => by simp [setO]
  | n + 1, x :: r, j + 1, h => by simpa [setO] using setO_ne (n := n) (l := r) (j := j) (by omega)
theorem getO_some {L : List AObj} {n : Nat} (h : n < L.length) : L[n]? = some (getO L n) := by
  unfold getO; rw [List.getElem?_eq_getElem h]; rfl
theorem swL_length {a b : Nat} : (swL a b L).length = L.length := by unfold swL; rw [AObj.rns_length, setO_length, setO_length]
theorem swL_get {a b : Nat} (ha : a < L.length) (hb : b < L.length) (j : Nat) : (swL a b L)[j]? = (L[swN a b j]?).map (AObj.rn (swN a b)) := by
  unfold swL
  rw [AObj.rns_get]
  congr 1
  by_cases h2 : j = b
  · subst h2; rw [setO_same (by rw [setO_length]; exact hb), swN_b, getO_some ha]
  · rw [setO_ne h2]
    by_cases h1 : j = a
    · subst h1; rw [setO_same ha, swN_a, getO_some hb]
    · rw [setO_ne h1, swN_ne h1 h2]
theorem rnT_lk {f : Nat → Nat} : ∀ {tm : Tm} {d : Nat}, lk (rnT f tm) d = (lk tm d).rn f
  | [], d => by simp [rnT, lk, AV.rn]
  | (s, x) :: r, d => by
    rw [rnT, lk_cons, lk_cons, rnT_lk (tm := r)]
    split <;> rfl
theorem Env.sw (En : Env F ρ (hp L) w) {a b : Nat} (ha : a < L.length) (hb : b < L.length) :
    Step F ρ (hp L) w F (fun j => ρ (swN a b j)) (hp (swL a b L)) w ∧ Env F (fun j => ρ (swN a b j)) (hp (swL a b L)) w := by
  have hget : ∀ j o, (swL a b L)[j]? = some o → ∃ o1, L[swN a b j]? = some o1 ∧ o = o1.rn (swN a b) := by
    intro j o h
    rw [swL_get ha hb] at h
    cases hq : L[swN a b j]? with
    | none => rw [hq] at h; cases h
    | some o1 => rw [hq] at h; injection h with h; exact ⟨o1, rfl, h.symm⟩
  refine ⟨⟨rfl, rfl, rfl, Nat.le_refl _, fun _ _ _ => rfl, fun _ h => h, fun b hb => .inl hb, fun c ⟨i, o', hh, h1, h2, h3, h4⟩ => ?_⟩, En.fb, fun i hi => ?_, fun i o' hi hl => ?_, fun i j o o' hh hh' c e1 e2 l1 l2 r1 r2 b1 b2 => ?_⟩
  · obtain ⟨o1, q1, rfl⟩ := hget i o' h1
    exact .inr ⟨_, o1, hh, q1, by rw [AObj.rn_live] at h2; exact h2, h3, h4⟩
  · refine En.abs _ ?_
    show L[swN a b i]? = none
    have hi : (swL a b L)[i]? = none := hi
    rw [swL_get ha hb] at hi
    cases hq : L[swN a b i]? with
    | none => rfl
    | some _ => rw [hq] at hi; cases hi
  · obtain ⟨o1, q1, rfl⟩ := hget i o' hi
    obtain ⟨hh, e1, e2, e3⟩ := En.rep _ o1 q1 (by rw [AObj.rn_live] at hl; exact hl)
    exact ⟨hh, e1, e2.rn (fun j h hj => by show ρ (swN a b (swN a b j)) = some h; rw [swN_two]; exact hj), e3⟩
  · obtain ⟨o1, q1, rfl⟩ := hget i o e1
    obtain ⟨o2, q2, rfl⟩ := hget j o' e2
    have := En.inj _ _ o1 o2 hh hh' c q1 q2 (by rw [AObj.rn_live] at l1; exact l1) (by rw [AObj.rn_live] at l2; exact l2) r1 r2 b1 b2
    rw [← swN_two (a := a) (b := b) (j := i), this, swN_two]
theorem RA.sw {a b : Nat} {x : AV} {v : Value} (h : RA w F ρ x v) : RA w F (fun j => ρ (swN a b j)) (x.rn (swN a b)) v :=
  h.rn (fun j h hj => by show ρ (swN a b (swN a b j)) = some h; rw [swN_two]; exact hj)
theorem mvN_a {a b : Nat} : mvN a b a = b := by unfold mvN; rw [show Nat.beq a a = true by simp]
theorem mvN_ne {a b j : Nat} (h : j ≠ a) : mvN a b j = j := by
  unfold mvN
  split
  · rename_i e; exact absurd (Nat.eq_of_beq_eq_true e) h
  · rfl
theorem mvL_length {a : Nat} : (mvL a L).length = L.length + 1 := by unfold mvL; rw [AObj.rns_length, List.length_append, setO_length]; rfl
theorem mvL_get {a : Nat} (ha : a < L.length) (j : Nat) : (mvL a L)[j]? = if j = a then some .dead else if j = L.length then some ((getO L a).rn (mvN a L.length)) else (L[j]?).map (AObj.rn (mvN a L.length)) := by
  unfold mvL
  rw [AObj.rns_get]
  by_cases h1 : j = a
  · subst h1
    rw [if_pos rfl, List.getElem?_append_left (by rw [setO_length]; exact ha), setO_same ha]; rfl
  · rw [if_neg h1]
    by_cases h2 : j = L.length
    · subst h2
      rw [if_pos rfl, List.getElem?_append_right (by rw [setO_length]; omega), setO_length, Nat.sub_self]; rfl
    · rw [if_neg h2]
      congr 1
      by_cases h3 : j < L.length
      · rw [List.getElem?_append_left (by rw [setO_length]; exact h3), setO_ne h1]
      · rw [List.getElem?_eq_none (by simp [setO_length]; omega), List.getElem?_eq_none (by omega)]
theorem Env.mv (En : Env F ρ (hp L) w) {a : Nat} (ha : a < L.length) :
    Step F ρ (hp L) w F (updF ρ L.length (ρ a)) (hp (mvL a L)) w ∧ Keep ρ (updF ρ L.length (ρ a)) ∧ (∀ j h, ρ j = some h → updF ρ L.length (ρ a) (mvN a L.length j) = some h) ∧ Env F (updF ρ L.length (ρ a)) (hp (mvL a L)) w := by
  have hn : ρ L.length = none := En.abs _ (List.getElem?_eq_none (Nat.le_refl _))
  have hk : Keep ρ (updF ρ L.length (ρ a)) := fun j h hj => by
    by_cases e : j = L.length
    · subst e; rw [hn] at hj; cases hj
    · rw [updF_ne _ _ e]; exact hj
  have hf : ∀ j h, ρ j = some h → updF ρ L.length (ρ a) (mvN a L.length j) = some h := fun j h hj => by
    by_cases e : j = a
    · subst e; rw [mvN_a, updF_same]; exact hj
    · rw [mvN_ne e]; exact hk j h hj
  -- where an object of the new heap comes from
  have src : ∀ j o, (mvL a L)[j]? = some o → o.live = true → ∃ i o1, L[i]? = some o1 ∧ o = o1.rn (mvN a L.length) ∧ updF ρ L.length (ρ a) j = ρ i ∧ j ≠ a ∧ ((j = L.length ∧ i = a) ∨ (j ≠ L.length ∧ i = j)) := by
    intro j o h hl
    rw [mvL_get ha] at h
    by_cases h1 : j = a
    · rw [if_pos h1] at h; injection h with h; subst h; cases hl
    · rw [if_neg h1] at h
      by_cases h2 : j = L.length
      · rw [if_pos h2] at h; injection h with h
        exact ⟨a, getO L a, getO_some ha, h.symm, by rw [h2, updF_same], h1, .inl ⟨h2, rfl⟩⟩
      · rw [if_neg h2] at h
        cases hq : L[j]? with
        | none => rw [hq] at h; cases h
        | some o1 => rw [hq] at h; injection h with h; exact ⟨j, o1, hq, h.symm, updF_ne _ _ h2, h1, .inr ⟨h2, rfl⟩⟩
  refine ⟨⟨rfl, rfl, rfl, Nat.le_refl _, fun _ _ _ => rfl, fun _ h => h, fun b hb => .inl hb, fun c ⟨i, o', hh, h1, h2, h3, h4⟩ => ?_⟩, hk, hf, En.fb, fun i hi => ?_, fun i o' hi hl => ?_, fun i j o o' hh hh' c e1 e2 l1 l2 r1 r2 b1 b2 => ?_⟩
  · obtain ⟨i1, o1, q1, rfl, q3, _⟩ := src i o' h1 h2
    exact .inr ⟨i1, o1, hh, q1, by rw [AObj.rn_live] at h2; exact h2, by rw [← q3]; exact h3, h4⟩
  · have hi : (mvL a L)[i]? = none := hi
    have := List.getElem?_eq_none_iff.1 hi
    rw [mvL_length] at this
    rw [updF_ne _ _ (by omega)]
    exact En.abs i (List.getElem?_eq_none (by omega))
  · obtain ⟨i1, o1, q1, rfl, q3, _⟩ := src i o' hi hl
    obtain ⟨hh, e1, e2, e3⟩ := En.rep _ o1 q1 (by rw [AObj.rn_live] at hl; exact hl)
    exact ⟨hh, by rw [q3]; exact e1, e2.rn hf, e3⟩
  · obtain ⟨i1, o1, q1, rfl, q3, qa, q4⟩ := src i o e1 l1
    obtain ⟨j1, o2, g1, rfl, g3, ga, g4⟩ := src j o' e2 l2
    have := En.inj _ _ o1 o2 hh hh' c q1 g1 (by rw [AObj.rn_live] at l1; exact l1) (by rw [AObj.rn_live] at l2; exact l2) (by rw [← q3]; exact r1) (by rw [← g3]; exact r2) b1 b2
    omega
def lo (ρ : Nat → Option Value) (m i : Nat) : Option Value := if i < m then ρ i else none
theorem lo_in {m i : Nat} {h : Value} (hi : i < m) (hρ : ρ i = some h) : lo ρ m i = some h := by unfold lo; rw [if_pos hi]; exact hρ
theorem cutN_ra {m i : Nat} {x : AV} {v : Value} (h : i < m → RA w F (lo ρ m) x v) : RA w F (lo ρ m) (cutN m i x) v := by
  unfold cutN
  split
  · rename_i e; exact h (by simpa [Nat.blt_eq] using e)
  · exact .any v
theorem cuts_length {m : Nat} : ∀ {xs : List AV}, (AV.cuts m xs).length = xs.length
  | [] => rfl
  | _ :: r => by rw [AV.cuts, List.length_cons, List.length_cons, cuts_length (xs := r)]
mutual
theorem RA.cut {m : Nat} : ∀ {x : AV} {v : Value}, RA w F ρ x v → RA w F (lo ρ m) (x.cut m) v
  | _, _, .d h => by rw [AV.cut]; exact .d h
  | _, _, .ptr h => by rw [AV.cut]; exact cutN_ra fun hi => .ptr (lo_in hi h)
  | _, _, .own h => by rw [AV.cut]; exact cutN_ra fun hi => .own (lo_in hi h)
  | _, _, .ep h => by rw [AV.cut]; exact cutN_ra fun hi => .ep (lo_in hi h)
  | _, _, .fp hb h hc => by rw [AV.cut]; exact .fp hb h hc
  | _, _, .agg h h1 => by rw [AV.cut]; exact .agg (RAs.cut h) h1
  | _, _, .tup h => by rw [AV.cut]; exact .tup (RAs.cut h)
  | _, _, .fn h h' => by rw [AV.cut]; exact .fn (RAs.cut h) (RAs.cut h')
  | _, _, .mp h => by rw [AV.cut]; exact cutN_ra fun hi => .mp (lo_in hi h)
  | _, _, .any v => by rw [AV.cut]; exact .any v
theorem RAs.cut {m : Nat} : ∀ {xs : List AV} {vs : List Value}, RAs w F ρ xs vs → RAs w F (lo ρ m) (AV.cuts m xs) vs
  | _, _, .nil => by rw [AV.cuts]; exact .nil
  | _, _, .cons h hr => by rw [AV.cuts]; exact .cons (RA.cut h) (RAs.cut hr)
end
theorem cutL_get {m : Nat} : ∀ {n : Nat} {l : List AObj} {j : Nat}, (cutL m n l)[j]? = if j < n then (l[j]?).map (AObj.cut m) else none
  | 0, l, j => by simp [cutL]
  | n + 1, [], j => by simp [cutL]
  | n + 1, o :: r, 0 => by simp [cutL]
  | n + 1, o :: r, j + 1 => by simp [cutL, cutL_get (n := n) (l := r) (j := j)]
theorem cut_live {m : Nat} {o : AObj} : (o.cut m).live = o.live := by cases o <;> rfl
theorem ORep.cut {m : Nat} {h : Value} {o : AObj} (hr : ORep w F ρ h o) : ORep w F (lo ρ m) h (o.cut m) := by
  cases o with
  | cells cs => obtain ⟨b, t, vs, e, hB, hra, h1⟩ := hr; exact ⟨b, t, vs, e, hB, hra.cut, h1⟩
  | _ => exact hr
theorem cutT_lk {m : Nat} : ∀ {tm : Tm} {d : Nat}, lk (cutT m tm) d = (lk tm d).cut m
  | [], d => by simp [cutT, lk, AV.cut]
  | (s, x) :: r, d => by
    rw [cutT, lk_cons, lk_cons, cutT_lk (tm := r)]
    split <;> rfl
theorem cutL_length {m : Nat} : ∀ {n : Nat} {l : List AObj}, n ≤ l.length → (cutL m n l).length = n
  | 0, _, _ => by simp [cutL]
  | n + 1, [], h => by simp at h
  | n + 1, o :: r, h => by simp [cutL, cutL_length (n := n) (l := r) (by simpa using h)]
theorem Env.cut (En : Env F ρ (hp L) w) (m : Nat) : Step F ρ (hp L) w F (lo ρ m) (hp (cutL m m L)) w ∧ Env F (lo ρ m) (hp (cutL m m L)) w := by
  have src : ∀ j o, (cutL m m L)[j]? = some o → j < m ∧ ∃ o1, L[j]? = some o1 ∧ o = o1.cut m := by
    intro j o h
    rw [cutL_get] at h
    by_cases hj : j < m
    · rw [if_pos hj] at h
      cases hq : L[j]? with
      | none => rw [hq] at h; cases h
      | some o1 => rw [hq] at h; injection h with h; exact ⟨hj, o1, rfl, h.symm⟩
    · rw [if_neg hj] at h; cases h
  have up : ∀ i h, lo ρ m i = some h → ρ i = some h := by
    intro i h hi
    unfold lo at hi
    split at hi
    · exact hi
    · cases hi
  refine ⟨⟨rfl, rfl, rfl, Nat.le_refl _, fun _ _ _ => rfl, fun _ h => h, fun b hb => .inl hb, fun c ⟨i, o', hh, h1, h2, h3, h4⟩ => ?_⟩, En.fb, fun i hi => ?_, fun i o' hi hl => ?_, fun i j o o' hh hh' c e1 e2 l1 l2 r1 r2 b1 b2 => ?_⟩
  · obtain ⟨_, o1, q1, rfl⟩ := src i o' h1
    exact .inr ⟨i, o1, hh, q1, by rw [cut_live] at h2; exact h2, up _ _ h3, h4⟩
  · have hi : (cutL m m L)[i]? = none := hi
    rw [cutL_get] at hi
    unfold lo
    by_cases hj : i < m
    · rw [if_pos hj] at hi ⊢
      refine En.abs i ?_
      show L[i]? = none
      cases hq : L[i]? with
      | none => rfl
      | some o1 => rw [hq] at hi; cases hi
    · rw [if_neg hj]
  · obtain ⟨hj, o1, q1, rfl⟩ := src i o' hi
    obtain ⟨hh, e1, e2, e3⟩ := En.rep _ o1 q1 (by rw [cut_live] at hl; exact hl)
    exact ⟨hh, lo_in hj e1, e2.cut, e3⟩
  · obtain ⟨_, o1, q1, rfl⟩ := src i o e1
    obtain ⟨_, o2, q2, rfl⟩ := src j o' e2
    exact En.inj _ _ o1 o2 hh hh' c q1 q2 (by rw [cut_live] at l1; exact l1) (by rw [cut_live] at l2; exact l2) (up _ _ r1) (up _ _ r2) b1 b2
theorem swOk_out {a b : Nat} (h : swOk k0 a b L = true) : k0 ≤ a ∧ k0 ≤ b ∧ a < L.length ∧ b < L.length := by
  simp only [swOk, Bool.and_eq_true, Nat.ble_eq, Nat.blt_eq] at h
  exact ⟨h.1.1.1, h.1.1.2, h.1.2, h.2⟩
theorem In.weak0 (hk0 : ∀ i h, ρ0 i = some h → i < k0) (h : Weak0 k0 tm L tm' L') (hI : In F0 ρ0 H0 w0 k0 N tm L a w) : In F0 ρ0 H0 w0 k0 N tm' L' a w := by
  obtain ⟨h1, h2, h3⟩ := h
  simp only [Bool.and_eq_true, Nat.ble_eq] at h1
  obtain ⟨F, ρ, S0, K0, En, Sl, hk⟩ := hI
  obtain ⟨S1, E1⟩ := En.weak h1.2 h3
  refine ⟨_, _, S0.trans S1, fun i v hv => ?_, E1, ⟨fun d => wkA_out En (wkT_lk h2 d) (tmLt_lk h1.1.2 d) (Sl.1 d), Sl.2⟩, h1.1.1⟩
  unfold rlow
  rw [if_pos (Nat.lt_of_lt_of_le (hk0 i v hv) h1.1.1), if_pos (Nat.lt_of_lt_of_le (hk0 i v hv) hk)]
  exact K0 i v hv
theorem In.weakS (hk0 : ∀ i h, ρ0 i = some h → i < k0) : ∀ {sw : List (Nat × Nat)} {tm : Tm} {L : List AObj}, WeakS k0 tm L tm' L' sw → In F0 ρ0 H0 w0 k0 N tm L a w → In F0 ρ0 H0 w0 k0 N tm' L' a w
  | [], _, _, h, hI => hI.weak0 hk0 h
  | (c, d) :: r, tm, L, h, hI => by
    unfold WeakS at h
    split at h
    · rename_i hd
      have hd := Nat.eq_of_beq_eq_true hd
      subst hd
      obtain ⟨h1, h2⟩ := h
      refine In.weakS hk0 h2 ?_
      obtain ⟨F, ρ, S0, K0, En, Sl, hk⟩ := hI
      obtain ⟨S1, K1, f1, E1⟩ := En.mv (a := c) (by simpa [Nat.blt_eq] using h1)
      exact ⟨_, _, S0.trans S1, fun i v hv => K1 i v (K0 i v hv), E1, ⟨fun k => by rw [rnT_lk]; exact (Sl.1 k).rn f1, Sl.2⟩, by rw [mvL_length]; omega⟩
    split at h
    · obtain ⟨h1, h2⟩ := h
      simp only [Bool.and_eq_true, Nat.ble_eq] at h1
      obtain ⟨h1, hle⟩ := h1
      refine In.weakS hk0 h2 ?_
      obtain ⟨F, ρ, S0, K0, En, Sl, hk⟩ := hI
      obtain ⟨S1, E1⟩ := En.cut c
      exact ⟨_, _, S0.trans S1, fun i v hv => lo_in (Nat.lt_of_lt_of_le (hk0 i v hv) h1) (K0 i v hv), E1, ⟨fun k => by rw [cutT_lk]; exact (Sl.1 k).cut, Sl.2⟩, by rw [cutL_length hle]; exact h1⟩
    obtain ⟨h1, h2⟩ := h
    obtain ⟨g1, g2, g3, g4⟩ := swOk_out h1
    refine In.weakS hk0 h2 ?_
    obtain ⟨F, ρ, S0, K0, En, Sl, hk⟩ := hI
    obtain ⟨S1, E1⟩ := En.sw g3 g4
    refine ⟨_, _, S0.trans S1, fun i v hv => ?_, E1, ⟨fun k => by rw [rnT_lk]; exact (Sl.1 k).sw, Sl.2⟩, by rw [swL_length]; exact hk⟩
    have hi := hk0 i v hv
    show ρ (swN c d i) = some v
    rw [swN_ne (by omega) (by omega)]
    exact K0 i v hv
theorem In.weak (hk0 : ∀ i h, ρ0 i = some h → i < k0) (h : Weak k0 tm L tm' L') (hI : In F0 ρ0 H0 w0 k0 N tm L a w) : In F0 ρ0 H0 w0 k0 N tm' L' a w := by
  obtain ⟨sw, h⟩ := h
  exact hI.weakS hk0 h
end
/-! ### code -/
abbrev CodeF := Tm → List AObj → (Exit → Tm → List AObj → Prop) → Prop
def cEnd (e : Exit) : CodeF := fun tm L K => K e tm L
def cNo : CodeF := fun _ _ _ => False
def cRegion (P : Program) (T : TypeId → TI) (E : Nat → Bool) (N : Nat) (ops : Array Oper) (draw : Bool) : CodeF := fun tm L K =>
  match draw with
  | false => vcOps P T E N ops.toList ops.toList tm L (K .normal)
  | true => (flowOk ops && dstsOk ops.toList N && guardsOk ops) = true ∧ drawOps P T E N ops.toList ops.toList tm L (fun l => l) fun es tm L => orderB ops.toList es = true ∧ K .normal tm L
def cSeq (x y : CodeF) : CodeF := fun tm L K => x tm L fun e tm L => match e with
  | .normal => y tm L K
  | e => K e tm L
/-- Ways may come together before they go on. -/
def cJoin (k0 : Nat) (x y : CodeF) : CodeF := fun tm L K => cSeq x y tm L K ∨ ∃ (X : Type) (Inv : X → Prop) (pat : X → Tm × List AObj), (x tm L fun e tm' L' => match e with
    | .normal => ∃ z, Inv z ∧ Weak k0 tm' L' (pat z).1 (pat z).2
    | e => K e tm' L') ∧ ∀ z, Inv z → y (pat z).1 (pat z).2 K
def cSeqJ (k0 : Nat) (c : Code) (x y : CodeF) : CodeF :=
  Code.rec (motive := fun _ => CodeF) (cSeq x y) (fun _ _ _ => cSeq x y) (fun _ _ _ j => j) (fun _ _ _ _ _ => cJoin k0 x y) (fun _ _ _ => cJoin k0 x y) (fun _ _ => cSeq x y)
    (fun _ _ _ _ _ _ => cSeq x y) (fun _ => cSeq x y) (fun _ _ => cSeq x y) (fun _ => cSeq x y) (fun _ => cSeq x y) (cSeq x y) (fun _ => cSeq x y) c
theorem cSeqJ_out {k0 : Nat} {x y : CodeF} {tm : Tm} {L : List AObj} {K : Exit → Tm → List AObj → Prop} : ∀ {c : Code}, cSeqJ k0 c x y tm L K → cJoin k0 x y tm L K
  | .skip, h => .inl h
  | .label _, h => .inl h
  | .region _ _ _, h => .inl h
  | .seq _ b, h => cSeqJ_out (c := b) h
  | .cond _ _ _, h => h
  | .block _ _, h => h
  | .loop _, h => .inl h
  | .exit _, h => .inl h
  | .ret, h => .inl h
  | .rangeFunc .., h => .inl h
  | .scope _, h => .inl h
  | .goto _, h => .inl h
  | .refuse _, h => .inl h
/-- A test: the slot's value is known behind it. -/
def cCond (c : Operand) (x y : CodeF) : CodeF := fun tm L K => match evAV tm c with
  | .d (.v (.bool b)) => match c with
    | .tmp t => (b = true → x ((t, .d (.v (.bool true))) :: tm) L K) ∧ (b = false → y ((t, .d (.v (.bool false))) :: tm) L K)
    | _ => (b = true → x tm L K) ∧ (b = false → y tm L K)
  | _ => False
def cBlock (id : Nat) (x : CodeF) : CodeF := fun tm L K => x tm L fun e tm L => match e with
  | .exit i => match Nat.beq i id with | true => K .normal tm L | false => K (.exit i) tm L
  | e => K e tm L
def cLoop (k0 : Nat) (x : CodeF) : CodeF := fun tm L K => ∃ (X : Type) (Inv : X → Prop) (pat : X → Tm × List AObj) (meas : X → Nat), (∃ x, Inv x ∧ Weak k0 tm L (pat x).1 (pat x).2) ∧ ∀ y, Inv y → x (pat y).1 (pat y).2 fun e tm' L' => match e with
    | .normal => ∃ z, Inv z ∧ meas z < meas y ∧ Weak k0 tm' L' (pat z).1 (pat z).2
    | e => K e tm' L'
def vcCode (P : Program) (T : TypeId → TI) (E : Nat → Bool) (k0 N : Nat) (c : Code) : CodeF :=
  Code.rec (motive := fun _ => CodeF) (cEnd .normal) (fun _ ops draw => cRegion P T E N ops draw) (fun c _ x y => cSeqJ k0 c x y) (fun c _ _ x y => cCond c x y) (fun id _ x => cBlock id x) (fun _ x => cLoop k0 x)
    (fun _ _ _ _ _ _ => cNo) (fun id => cEnd (.exit id)) (fun _ _ => cNo) (fun _ => cEnd .normal) (fun _ => cNo) (cEnd .ret) (fun _ => cNo) c
section
variable {P : Program} {T : TypeId → TI} {E : Nat → Bool} {N : Nat}
variable {F0 : Nat → Prop} {ρ0 : Nat → Option Value} {H0 : Hp} {w0 : World} {k0 : Nat}
theorem wp_loop_ghost {X : Type} {c : Code} {Q : Exit → Act → World → Prop} (I : X → Act → World → Prop) (μ : X → Nat) (round : ∀ x a w, I x a w → c.wp P (Exit.then (fun a' w' => ∃ y, I y a' w' ∧ μ y < μ x) Q) a w) :
    ∀ (n : Nat) (x : X) (a : Act) (w : World), μ x < n → I x a w → Code.rounds P c Q n a w
  | 0, _, _, _, h, _ => absurd h (Nat.not_lt_zero _)
  | n + 1, x, a, w, h, hI => by
    rw [rounds_succ]
    refine wp_mono (round x a w hI) fun e a' w' hq => ?_
    cases e with
    | normal =>
      obtain ⟨y, hy, hlt⟩ := hq
      exact wp_loop_ghost I μ round n y a' w' (by omega) hy
    | _ => exact hq
theorem vcCode_out (hT : T = tiOf P) (hE : ∀ g, E g = true → entersB P g = true) (hm : P.follows .mixedOrders = true) (hk0 : ∀ i h, ρ0 i = some h → i < k0) : ∀ (c : Code) (tm : Tm) (L : List AObj) (K : Exit → Tm → List AObj → Prop) (a : Act) (w : World),
    vcCode P T E k0 N c tm L K → In F0 ρ0 H0 w0 k0 N tm L a w → c.wp P (fun e a' w' => ∃ tm' L', K e tm' L' ∧ In F0 ρ0 H0 w0 k0 N tm' L' a' w') a w
  | .skip, tm, L, K, a, w, h, hI => wp_skip ⟨tm, L, h, hI⟩
  | .label _, tm, L, K, a, w, h, hI => wp_label ⟨tm, L, h, hI⟩
  | .region _ ops false, tm, L, K, a, w, h, hI => wp_region_list (vcOps_out hT hE ops.toList tm L a w h hI fun tm L a w h hI => ⟨tm, L, h, hI⟩)
  | .region _ ops true, tm, L, K, a, w, h, hI => by
    have h : (flowOk ops && dstsOk ops.toList N && guardsOk ops) = true ∧ drawOps P T E N ops.toList ops.toList tm L (fun l => l) (fun es tm L => orderB ops.toList es = true ∧ K .normal tm L) := h
    obtain ⟨hreg, h⟩ := h
    obtain ⟨es, tm', L', hTr, ⟨hord, hK⟩, hle⟩ := drawOps_out hT hE h
    obtain ⟨F, ρ, S0, K0, En, Sl, hk⟩ := hI
    refine draw_out hm hreg hTr hord En Sl fun a' w' F' ρ' S1 K1 E1 Sl1 => ⟨tm', L', hK, F', ρ', S0.trans S1, K0.trans K1, E1, Sl1, by omega⟩
  | .seq x y, tm, L, K, a, w, h, hI => by
    have h : cSeqJ k0 x (vcCode P T E k0 N x) (vcCode P T E k0 N y) tm L K := h
    have h : cJoin k0 (vcCode P T E k0 N x) (vcCode P T E k0 N y) tm L K := cSeqJ_out h
    rcases h with h | ⟨X, Inv, pat, h, hz⟩
    · unfold cSeq at h
      refine wp_seq (wp_mono (vcCode_out hT hE hm hk0 x tm L _ a w h hI) fun e a' w' ⟨tm', L', hq, hI'⟩ => ?_)
      cases e with
      | normal => exact vcCode_out hT hE hm hk0 y tm' L' K a' w' hq hI'
      | _ => exact ⟨tm', L', hq, hI'⟩
    · refine wp_seq (wp_mono (vcCode_out hT hE hm hk0 x tm L _ a w h hI) fun e a' w' ⟨tm', L', hq, hI'⟩ => ?_)
      cases e with
      | normal =>
        obtain ⟨z, hI0, hwk⟩ := hq
        exact vcCode_out hT hE hm hk0 y _ _ K a' w' (hz z hI0) (hI'.weak hk0 hwk)
      | _ => exact ⟨tm', L', hq, hI'⟩
  | .cond c x y, tm, L, K, a, w, h, hI => by
    have h : cCond c (vcCode P T E k0 N x) (vcCode P T E k0 N y) tm L K := h
    unfold cCond at h
    split at h
    · rename_i b hb
      have hc : a.eval c = .bool b := by
        obtain ⟨F, ρ, _, _, _, Sl, _⟩ := hI
        have := Sl.eval c
        rw [hb] at this
        exact this.v_out
      split at h
      · rename_i t _
        have hs : ∀ b', b = b' → In F0 ρ0 H0 w0 k0 N ((t, .d (.v (.bool b'))) :: tm) L a w := by
          rintro b' rfl
          obtain ⟨F, ρ, h1, h2, h3, Sl, h4⟩ := hI
          exact ⟨F, ρ, h1, h2, h3, Sl.same (.put hb), h4⟩
        exact wp_cond_split hc (fun hb => vcCode_out hT hE hm hk0 x _ L K a w (h.1 hb) (hs _ hb)) fun hb => vcCode_out hT hE hm hk0 y _ L K a w (h.2 hb) (hs _ hb)
      · exact wp_cond_split hc (fun hb => vcCode_out hT hE hm hk0 x tm L K a w (h.1 hb) hI) fun hb => vcCode_out hT hE hm hk0 y tm L K a w (h.2 hb) hI
    · exact h.elim
  | .block id c, tm, L, K, a, w, h, hI => by
    have h : cBlock id (vcCode P T E k0 N c) tm L K := h
    unfold cBlock at h
    refine wp_block (wp_mono (vcCode_out hT hE hm hk0 c tm L _ a w h hI) fun e a' w' ⟨tm', L', hq, hI'⟩ => ?_)
    cases e with
    | exit i =>
      unfold Exit.inBlock
      simp only at hq
      by_cases hid : i = id
      · subst hid
        simp only [if_true]
        rw [show Nat.beq i i = true by simp] at hq
        exact ⟨tm', L', hq, hI'⟩
      · simp only [if_neg hid]
        have : Nat.beq i id = false := by cases hb : Nat.beq i id with | false => rfl | true => exact absurd (Nat.eq_of_beq_eq_true hb) hid
        rw [this] at hq
        exact ⟨tm', L', hq, hI'⟩
    | _ => exact ⟨tm', L', hq, hI'⟩
  | .loop c, tm, L, K, a, w, h, hI => by
    have h : cLoop k0 (vcCode P T E k0 N c) tm L K := h
    unfold cLoop at h
    obtain ⟨X, Inv, pat, meas, ⟨x0, hx0, hw0⟩, hround⟩ := h
    refine wp_loop_rounds (meas x0 + 1) (wp_loop_ghost (fun x a w => Inv x ∧ In F0 ρ0 H0 w0 k0 N (pat x).1 (pat x).2 a w) meas (fun x a w hx => ?_) _ x0 a w (Nat.lt_succ_self _) ⟨hx0, hI.weak hk0 hw0⟩)
    refine wp_mono (vcCode_out hT hE hm hk0 c _ _ _ a w (hround x hx.1) hx.2) fun e a' w' ⟨tm', L', hq, hI'⟩ => ?_
    cases e with
    | normal =>
      obtain ⟨y, hy, hlt, hwk⟩ := hq
      exact ⟨y, ⟨hy, hI'.weak hk0 hwk⟩, hlt⟩
    | _ => exact ⟨tm', L', hq, hI'⟩
  | .exit id, tm, L, K, a, w, h, hI => wp_exit ⟨tm, L, h, hI⟩
  | .ret, tm, L, K, a, w, h, hI => wp_ret ⟨tm, L, h, hI⟩
  | .rangeFunc .., _, _, _, _, _, h, _ => h.elim
  | .scope _, _, _, _, _, _, h, _ => h.elim
  | .goto _, _, _, _, _, _, h, _ => h.elim
  | .refuse _, _, _, _, _, _, h, _ => h.elim
end
end Go.Proofs.Ytgidaifoiljgoaa
/- Functions: from the conditions to the contract. No program is named here. -/
namespace Go.Proofs.Ytgidaifoiljgoaa
set_option linter.unusedSimpArgs false
set_option linter.unusedVariables false
open Go.RowKit
def params : Nat → List AV → Tm
  | _, [] => []
  | i, x :: r => (i, x) :: params (i + 1) r
def resK (T : TypeId → TI) (L : List AObj) : List ResultVar → Tm → (List AV → Prop) → Prop
  | [], _, k => k []
  | .tmp t :: r, tm, k => fRes (lk tm t) fun x => resK T L r tm fun l => k (x :: l)
  | .cell p ty :: r, tm, k => loadK (T ty) (lk tm p) L fun _ x => resK T L r tm fun l => k (x :: l)
def wkR (L L' : List AObj) (y r : AV) : Prop :=
  match r with
  | .tup xs => fAV y fun y => match y with
    | .tup ys => wkAs L L' ys xs
    | _ => False
  | r => wkA L L' y r
def oneOr (l : List AV) : AV := match l with | [x] => x | l => .tup l
def EndS (k0 : Nat) (r : AV) (H' : List AObj) (y : AV) (L : List AObj) : List (Nat × Nat) → Prop
  | [] => wkR L H' y r ∧ (Nat.ble k0 H'.length && AV.lt H'.length r && AObj.lts H'.length H') = true ∧ wkL L H' L H'
  | (a, b) :: s => match Nat.beq b L.length with
    | true => Nat.blt a L.length = true ∧ fAV (y.rn (mvN a b)) fun y => EndS k0 r H' y (mvL a L) s
    | false => match Nat.beq a b with
      | true => (Nat.ble k0 a && Nat.ble a L.length) = true ∧ fAV (y.cut a) fun y => EndS k0 r H' y (cutL a a L) s
      | false => swOk k0 a b L = true ∧ fAV (y.rn (swN a b)) fun y => EndS k0 r H' y (swL a b L) s
def retK (T : TypeId → TI) (res : List ResultVar) (k0 : Nat) (r : AV) (H' : List AObj) (e : Exit) (tm : Tm) (L : List AObj) : Prop :=
  match e with
  | .normal => resK T L res tm fun l => fAV (oneOr l) fun y => ∃ sw, EndS k0 r H' y L sw
  | .ret => resK T L res tm fun l => fAV (oneOr l) fun y => ∃ sw, EndS k0 r H' y L sw
  | _ => False
section
variable {P : Program} {w w' : World} {F F' : Nat → Prop} {ρ ρ' : Nat → Option Value} {L L' : List AObj} {T : TypeId → TI} {E : Nat → Bool} {N : Nat} {tm tm' : Tm} {a : Act}
theorem params_lk : ∀ (xs : List AV) (i d : Nat), lk (params i xs) d = if i ≤ d then (xs[d - i]?).getD .any else .any
  | [], i, d => by simp [params, lk]
  | x :: r, i, d => by
    rw [params, lk_cons, params_lk r (i + 1) d]
    by_cases e : i = d
    · subst e; simp
    · rw [if_neg e]
      by_cases h : i + 1 ≤ d
      · rw [if_pos h, if_pos (by omega), show d - i = (d - (i + 1)) + 1 by omega]; simp
      · rw [if_neg h, if_neg (by omega)]
theorem wkR_out (En : Env F ρ (hp L) w) {y x : AV} {v : Value} (h : wkR L L' y x) (hl : AV.lt L'.length x = true) (hv : RA w F ρ y v) : RA w (fun b => F b ∨ frz ρ L L' b) (rlow ρ L.length L'.length) x v := by
  unfold wkR at h
  split at h
  · rename_i xs
    have h := fAV_iff.1 h
    split at h
    · cases hv with | tup hv => exact .tup (wkAs_out En h (by simpa [AV.lt] using hl) hv)
    · exact h.elim
  · exact wkA_out En h hl hv
/-- One result. -/
def getRes (tmps : Array Value) : ResultVar → Sem Value
  | .tmp t => pure (tmps.getD t undef)
  | .cell a t => do loadVar t (← asAddr (tmps.getD a undef))
theorem resK_out {F : Nat → Prop} {ρ : Nat → Option Value} (En : Env F ρ (hp L) w) (Sl : Slots w F ρ N tm a) : ∀ {res : List ResultVar} {k : List AV → Prop}, resK (tiOf P) L res tm k → ∃ l vs, k l ∧ RAs w F ρ l vs ∧ (res.mapM (getRes a.tmps)).run P w = .ok vs w
  | [], k, h => ⟨[], [], h, .nil, by simp⟩
  | .tmp t :: r, k, h => by
    obtain ⟨l, vs, h1, h2, h3⟩ := resK_out En Sl (fRes_out h)
    exact ⟨_, _ :: vs, h1, .cons (Sl.1 t) h2, by simp [getRes, h3]⟩
  | .cell p ty :: r, k, h => by
    obtain ⟨e, x, h, _, _, hr⟩ := loadK_run h
    obtain ⟨l, vs, h1, h2, h3⟩ := resK_out En Sl h
    obtain ⟨u, hu, hx⟩ := hr (hp L) F ρ w _ En (fun _ _ => rfl) (Sl.1 p)
    refine ⟨_, u :: vs, h1, .cons hx h2, ?_⟩
    have hl : (getRes a.tmps (.cell p ty)).run P w = .ok u w := by
      show (asAddr (a.tmps.getD p undef) >>= loadVar ty).run P w = .ok u w
      have hu : (Instr.sureAddr (a.tmps.getD p undef) >>= loadVar ty).run P w = .ok u w := hu
      revert hu
      generalize a.tmps.getD p undef = q
      intro hu
      cases q with
      | pointer q =>
        cases q with
        | some q => simpa [Instr.sureAddr, asAddr] using hu
        | none => simp [Instr.sureAddr] at hu
      | _ => simp [Instr.sureAddr] at hu
    simp [hl, h3]
theorem run_results {fn : Func} {tmps : Array Value} {vs : List Value} (h : (fn.results.toList.mapM (getRes tmps)).run P w = .ok vs w) : ∃ v, (results fn tmps).run P w = .ok v w ∧ ∀ F ρ l, RAs w F ρ l vs → RA w F ρ (oneOr l) v := by
  have hr : (results fn tmps).run P w = .ok (if h : vs.toArray.size = 1 then vs.toArray[0] else .tuple vs.toArray) w := by
    have e : results fn tmps = (do let vs ← List.toArray <$> fn.results.toList.mapM (getRes tmps); pure (if h : vs.size = 1 then vs[0] else .tuple vs)) := by
      unfold results
      rw [Array.mapM_eq_mapM_toList]
      congr 2
    rw [e]
    simp [h]
  refine ⟨_, hr, fun F ρ l hl => ?_⟩
  have hlen := hl.length
  cases hl with
  | nil => simpa [oneOr] using RA.tup (F := F) (ρ := ρ) (w := w) .nil
  | cons h1 hrest =>
    cases hrest with
    | nil => simpa [oneOr] using h1
    | cons h2 hrest =>
      have : RA w F ρ (.tup _) (.tuple _) := .tup (.cons h1 (.cons h2 hrest))
      simpa [oneOr] using this
theorem EndS.out {k0 : Nat} {r : AV} {H' : List AObj} {v : Value} : ∀ {sw : List (Nat × Nat)} {y : AV} {L : List AObj} {ρ : Nat → Option Value}, EndS k0 r H' y L sw → k0 ≤ L.length → Env F ρ (hp L) w → RA w F ρ y v →
    ∃ F' ρ', Step F ρ (hp L) w F' ρ' (hp H') w ∧ (∀ i h, i < k0 → ρ i = some h → ρ' i = some h) ∧ Env F' ρ' (hp H') w ∧ RA w F' ρ' r v
  | [], y, L, ρ, h, hk, En, hv => by
    obtain ⟨h4, h5, h6⟩ := h
    simp only [Bool.and_eq_true, Nat.ble_eq] at h5
    obtain ⟨S2, E2⟩ := En.weak h5.2 h6
    refine ⟨_, _, S2, fun i u hi hu => ?_, E2, wkR_out En h4 h5.1.2 hv⟩
    unfold rlow
    rw [if_pos (by omega), if_pos (by omega)]
    exact hu
  | (c, d) :: s, y, L, ρ, h, hk, En, hv => by
    unfold EndS at h
    split at h
    · rename_i hd
      have hd := Nat.eq_of_beq_eq_true hd
      subst hd
      obtain ⟨h1, h2⟩ := h
      obtain ⟨S1, K1, f1, E1⟩ := En.mv (a := c) (by simpa [Nat.blt_eq] using h1)
      obtain ⟨F', ρ', S2, K2, E2, R2⟩ := EndS.out (fAV_iff.1 h2) (by rw [mvL_length]; omega) E1 (hv.rn f1)
      exact ⟨F', ρ', S1.trans S2, fun i u hi hu => K2 i u hi (K1 i u hu), E2, R2⟩
    split at h
    · obtain ⟨h1, h2⟩ := h
      simp only [Bool.and_eq_true, Nat.ble_eq] at h1
      obtain ⟨h1, hle⟩ := h1
      obtain ⟨S1, E1⟩ := En.cut c
      obtain ⟨F', ρ', S2, K2, E2, R2⟩ := EndS.out (fAV_iff.1 h2) (by rw [cutL_length hle]; exact h1) E1 hv.cut
      exact ⟨F', ρ', S1.trans S2, fun i u hi hu => K2 i u hi (lo_in (by omega) hu), E2, R2⟩
    obtain ⟨h1, h2⟩ := h
    obtain ⟨g1, g2, g3, g4⟩ := swOk_out h1
    obtain ⟨S1, E1⟩ := En.sw g3 g4
    obtain ⟨F', ρ', S2, K2, E2, R2⟩ := EndS.out (fAV_iff.1 h2) (by rw [swL_length]; exact hk) E1 hv.sw
    refine ⟨F', ρ', S1.trans S2, fun i u hi hu => K2 i u hi ?_, E2, R2⟩
    show ρ (swN c d i) = some u
    rw [swN_ne (by omega) (by omega)]
    exact hu
/-- **From the conditions of a function's body to its contract.** -/
theorem sat_of_vc {g : FuncId} {fn : Func} {c : Code} {args : List AV} {H H' : List AObj} {r : AV} (hf : P.funcs[g]? = some fn) (hb : fn.body = some c) (hT : T = tiOf P) (hE : ∀ g, E g = true → entersB P g = true) (hm : P.follows .mixedOrders = true)
    (hn : Nat.ble args.length fn.ntmps = true) (h : vcCode P T E H.length fn.ntmps c (params 0 args) H (retK T fn.results.toList H.length r H')) : Sat P g args H r H' := by
  intro F ρ w vals En hv
  have hl := hv.length
  have hn := Nat.le_of_ble_eq_true hn
  have hk0 : ∀ i v, ρ i = some v → i < H.length := fun i v hi => by
    rcases Nat.lt_or_ge i H.length with q | q
    · exact q
    · rw [En.abs i (List.getElem?_eq_none q)] at hi; cases hi
  refine calls_of_wp hf hb (wp_mono (vcCode_out hT hE hm hk0 c _ H _ _ w h ⟨F, ρ, Step.refl _ _ _ _, Keep.refl _, En, ⟨fun d => ?_, ?_, rfl⟩, Nat.le_refl _⟩) fun e a' w' ⟨tm', L', hq, F', ρ', S1, K1, E1, Sl1, hle⟩ => ?_)
  · rw [params_lk, if_pos (Nat.zero_le _), Nat.sub_zero]
    cases hd : args[d]? with
    | none => exact .any _
    | some x =>
      obtain ⟨v, h1, h2⟩ := hv.get hd
      have hlt := (List.getElem?_eq_some_iff.1 h1).1
      have : (vals.toArray ++ Array.replicate (fn.ntmps - vals.toArray.size) undef).getD d undef = v := by
        rw [Array.getD_eq_getD_getElem?, Array.getElem?_append_left (by simpa using hlt)]
        simp [h1]
      rw [this]; exact h2
  · simp; omega
  · have fin : (resK T L' fn.results.toList tm' fun l => fAV (oneOr l) fun y => ∃ sw, EndS H.length r H' y L' sw) →
        a'.defers = [] ∧ ∃ v, (results fn a'.tmps).run P w' = .ok v w' ∧ ∃ v', Ending.returned v = .returned v' ∧ Post F ρ (hp H) w (hp H') r v' w' := by
      intro h
      subst hT
      obtain ⟨l, vs, h1, h2, h3⟩ := resK_out E1 Sl1 h
      obtain ⟨sw, h4⟩ := fAV_iff.1 h1
      obtain ⟨v, hrun, hv'⟩ := run_results h3
      obtain ⟨F2, ρ2, S2, K2, E2, R2⟩ := h4.out hle E1 (hv' _ _ _ h2)
      exact ⟨Sl1.2.2, v, hrun, v, rfl, _, _, S1.trans S2, fun i u hi => K2 i u (hk0 i u hi) (K1 i u hi), E2, R2⟩
    cases e with
    | normal => exact fin hq
    | ret => exact fin hq
    | _ => exact hq.elim
end
end Go.Proofs.Ytgidaifoiljgoaa
/- Contracts at a call. No program is named here. -/
namespace Go.Proofs.Ytgidaifoiljgoaa
set_option linter.unusedSimpArgs false
set_option linter.unusedVariables false
open Go.RowKit
mutual
theorem AV.rn_zero {f : Nat → Nat} : ∀ (x : AV), AV.lt 0 x = true → x.rn f = x
  | .d x, _ => by rw [AV.rn]
  | .ptr i o, h => by simp [AV.lt, Nat.blt] at h
  | .own i, h => by simp [AV.lt, Nat.blt] at h
  | .ep i s q g, h => by simp [AV.lt, Nat.blt] at h
  | .fp xs, _ => by rw [AV.rn]
  | .agg xs, h => by rw [AV.rn, AV.rns_zero xs (by simpa [AV.lt] using h)]
  | .tup xs, h => by rw [AV.rn, AV.rns_zero xs (by simpa [AV.lt] using h)]
  | .fn g a b, h => by simp [AV.lt] at h; rw [AV.rn, AV.rns_zero a h.1, AV.rns_zero b h.2]
  | .mp i, h => by simp [AV.lt, Nat.blt] at h
  | .any, _ => by rw [AV.rn]
theorem AV.rns_zero {f : Nat → Nat} : ∀ (xs : List AV), AV.lts 0 xs = true → AV.rns f xs = xs
  | [], _ => by rw [AV.rns]
  | x :: r, h => by simp [AV.lts] at h; rw [AV.rns, AV.rn_zero x h.1, AV.rns_zero r h.2]
end
section
variable {P : Program} {L : List AObj} {n : Nat} {g : FuncId} {args : List AV} {r : AV}
/-- A function that is only handed data, and hands back data. -/
theorem Sat.pu (h : Sat P g args [] r []) (hi : AV.lts 0 args = true) (hr : AV.lt 0 r = true) : CallOK P g args L n e0 r := by
  have := h.at_ [] L n rfl List.nodup_nil rfl rfl (by simp [hi, AObj.lts]) (fun j hj => by simp at hj)
  rw [AV.rns_zero _ hi, AV.rn_zero _ hr] at this
  exact this
/-- .. and hands back new objects. -/
theorem Sat.nw {H' : List AObj} (h : Sat P g args [] r H') (hi : AV.lts 0 args = true) : CallOK P g args L n ⟨[], [], AObj.rns (sub [] n) H'⟩ (r.rn (sub [] n)) := by
  have := h.at_ [] L n rfl List.nodup_nil rfl rfl (by simp [hi, AObj.lts]) (fun j hj => by simp at hj)
  rw [AV.rns_zero _ hi] at this
  exact this
end
end Go.Proofs.Ytgidaifoiljgoaa
/- From the walk of a law to its statement: the part that is alike for all laws. No program is named here. -/
namespace Go.Proofs.Ytgidaifoiljgoaa
set_option linter.unusedSimpArgs false
set_option linter.unusedVariables false
open Go.ChangeShapes Go.WideShapes Go.ChangeAt Go.RowKit

section
variable {H : Type} {enc : TypeId × Value → H} {P : Program}
theorem trodAll_below (hl : laidOutB P = true) {W W' : World} (hb : Below W.heap.size W W') : ∀ {ts : List TypeId}, (ts.all fun t => P.readableRec t && decide (t < P.types.size)) = true → ∀ {vs : List Value} {ds : List (DataW H)} {ps : List MemPlace},
    DataW.TrodAll enc P W 0 (fun _ => true) true ts vs ds ps → DataW.TrodAll enc P W' 0 (fun b => decide (b < W.heap.size)) true ts vs ds ps := by
  intro ts
  induction ts with
  | nil =>
    intro _ vs ds ps h
    obtain ⟨rfl, rfl, rfl⟩ := trodAll_nil h
    exact trodAll_mk0
  | cons t ts ih =>
    intro hts vs ds ps h
    obtain ⟨v, vs', d, ds', p, q, rfl, rfl, rfl, h0, r0⟩ := trodAll_cons h
    simp only [List.all_cons, Bool.and_eq_true, decide_eq_true_eq] at hts
    have lt0 : ∀ x ∈ p, x.block < W.heap.size := by obtain ⟨m, hm⟩ := h0; exact DataW.trod_lt m _ _ _ hm
    refine trodAll_cons_mk (Below.trod hl hts.1.1 hts.1.2 h0 hb lt0) (ih ?_ r0)
    simpa using hts.2

theorem trodAll_length {w : World} {base : Nat} {spare : Nat → Bool} {held : Bool} : ∀ {ts : List TypeId} {vs : List Value} {ds : List (DataW H)} {ps : List MemPlace}, DataW.TrodAll enc P w base spare held ts vs ds ps → ds.length = ts.length := by
  intro ts
  induction ts with
  | nil =>
    intro vs ds ps h
    obtain ⟨rfl, rfl, rfl⟩ := trodAll_nil h
    rfl
  | cons t ts ih =>
    intro vs ds ps h
    obtain ⟨v, vs', d, ds', p, q, rfl, rfl, rfl, h0, r0⟩ := trodAll_cons h
    simp [ih r0]

/-- What the walk of a law must show: from whatever arguments that read as data, true comes back, and nothing that was there has turned. -/
def LawWalk (H : Type) (enc : TypeId × Value → H) (P : Program) (F : FuncId) (fn : Func) : Prop :=
  ∀ (W : World) (base : Nat) (args : Array Value) (ds : List (DataW H)) (p : List MemPlace),
    (∀ (j : Nat) t v, fn.params[j]? = some t → args[j]? = some v → Value.okWide P W .any base t v) →
    DataW.TrodAll enc P W 0 (fun _ => true) true fn.params.toList args.toList ds p →
    (DataW.weightsEach P fn.params.toList ds).all (· ≤ reachBytes) = true →
    Calls P F args W fun e W' => e = .returned (.bool true) ∧ Below W.heap.size W W'

theorem lift_law {C : Checked} {os : Os} {F : FuncId} {fn : Func} {s : ChangeSpec} {bT : TypeId} (laid : laidOutB C.prog = true) (own : ownKnob C.prog.godebug = none) (started : os.Started) (noInit : C.prog.inits.idxOf? F = none)
    (hfn : C.prog.funcs[F]? = some fn) (hts : (fn.params.toList.all fun t => C.prog.readableRec t && decide (t < C.prog.types.size)) = true) (hbT : C.prog.underlying bT = some .bool) (hres : fn.resultTypes = #[bT])
    (hvars : s.vars = []) (hs : ∀ ds : List (DataW H), ds.length = fn.params.toList.length → s.fn H ds = { results := [.lit (.bool true)], args := ds })
    (witness : ∃ (w : World) (tape : Tape) (i : Input), w.os = os ∧ (w.forCall tape i).Shaped C.prog ∧ i.vars = [] ∧ Input.okWide C.prog (w.forCall tape i) .any w.heap.size F i ∧
      s.pre6 enc C.prog fn [] false (w.forCall tape i).memory i.args ∧ Assume.holds {} C.prog (lone (Frame.enter C.prog F i.args .normal) [] (w.forCall tape i)))
    (walk : LawWalk H enc C.prog F fn) :
    ReturnsInHanded {} C os F .any (s.pre6 enc C.prog fn [] false) (s.post enc C.prog fn false true false false) := by
  refine returnsInHanded_of_change_sized own started noInit hfn witness ?_
  intro W base args ds gs before hval hW _ hsz _
  have hW' := hW
  obtain ⟨p, q, hA, hV, rfl, hfz, hnd⟩ := hW
  rw [hvars] at hV
  obtain ⟨rfl, rfl⟩ := trodVars_none hV
  have hvt : s.plain.varTypes C.prog = [] := by simp [ChangeSpec.plain, DataSpec.varTypes, hvars]
  rw [hvt, List.append_nil, List.append_nil] at hsz
  refine (walk W base args ds p hval hA hsz).mono fun e W' ⟨he, bel⟩ => ?_
  subst he
  have hd := trodAll_length hA
  have hsp := hs ds hd
  refine ⟨_, rfl, ds, [], p ++ [], [], p, [], hW', ?_, ?_, ?_, bel.frame _, fun h => by cases h⟩
  · rw [List.append_nil, hsp, hres]
    exact trodAll_mk1 (shut_bool hbT _)
  · rw [List.append_nil, hsp]
    exact trodAll_below laid bel hts hA
  · rw [List.append_nil, hsp, hvars]
    rfl
end

/-! ### arguments -/
section
variable {H : Type} {enc : TypeId × Value → H} {P : Program} {w : World}
theorem u8_of_wf {z : Int} (h : (Lit.int .u8 z).wf = true) : ((UInt8.ofNat z.toNat).toNat : Int) = z := by
  have hb : 0 ≤ z ∧ z ≤ 255 := by
    have := bounds_u8 h
    omega
  simp [UInt8.toNat_ofNat']
  omega
/-- A slice of bytes that came in. -/
theorem open_bytes {t e : TypeId} {base : Nat} {v : Value} {d : DataW H} {p : List MemPlace} (ht : P.underlying t = some (.slice e)) (he : P.underlying e = some (.int .u8)) (hce : P.cellsOf e = 1) (hbe : P.bytesOf e = 1)
    (hok : Value.okWide P w .any base t v) (h : DataW.Trod enc P w 0 (fun _ => true) true t v d p) (hwt : (d.weights P t).all (· ≤ reachBytes) = true) :
    ∃ A n c l, v = .slice A n c ∧ RdB w w.heap.size A n l ∧ n ≤ c ∧ c ≤ 140737488351232 := by
  obtain ⟨a0, len, cap, rfl⟩ := okWide_slice ht hok
  have lt0 : ∀ x ∈ p, x.block < w.heap.size := by obtain ⟨m, hm⟩ := h; exact DataW.trod_lt m _ _ _ hm
  obtain ⟨fuel, hf⟩ := h
  rcases open_ints ht he hce hf with ⟨hcs, _⟩ | ⟨x, l', c', zs, hcs, _, hl, hm, hz, hx, hcell, hwz⟩
  · simp [Value.cells] at hcs
    obtain ⟨rfl, rfl, rfl⟩ := hcs
    exact ⟨none, 0, 0, [], rfl, Rd.nil, by omega, by omega⟩
  · simp [Value.cells] at hcs
    obtain ⟨rfl, rfl, rfl⟩ := hcs
    simp only [if_true] at hz
    have hcap : cap ≤ 140737488351232 := by
      have hd : d = .slice (lits .u8 (zs.take len)) (lits .u8 (zs.drop len)) := congrArg Prod.fst hx
      rw [hd] at hwt
      have h1 := List.all_eq_true.1 hwt (((lits (H := H) .u8 (zs.take len)).length + (lits (H := H) .u8 (zs.drop len)).length) * P.bytesOf e) (by simp [DataW.weights, ht])
      simp only [lits, List.length_map, List.length_take, List.length_drop, hbe, decide_eq_true_eq, reachBytes] at h1
      omega
    refine ⟨some x, len, cap, (zs.take len).map (fun z => UInt8.ofNat z.toNat), rfl, ⟨by simp; omega, fun hn => ?_⟩, hl, hcap⟩
    obtain ⟨b, off, spot⟩ := x
    have hc0 := hcell 0 (by omega)
    have hspot : spot = none := by simpa [Addr.add] using World.cell?_spot hc0
    subst hspot
    refine ⟨b, off, rfl, World.block_lt_of_cell? w _ hc0 |> (by simpa [Addr.add_lit] using ·), fun j hj => ?_⟩
    have hj' : j < len := by simp at hj; omega
    have hcj := hcell j (by omega)
    rw [Addr.add_lit] at hcj
    rw [hcj]
    have hjz : j < zs.length := by omega
    simp only [List.getElem_map, List.getElem_take, bv, Option.some.injEq, Value.int.injEq, true_and]
    rw [u8_of_wf (hwz _ (List.getElem_mem _))]
    simp [List.getD, List.getElem?_eq_getElem hjz]
end
end Go.Proofs.Ytgidaifoiljgoaa
