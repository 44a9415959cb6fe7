/- Functions: from the conditions to the contract. No program is named here. -/
import Derived.Test.YtgidaifoiljgoaaVcO
namespace Go.Proofs.Ytgidaifoiljgoaa
set_option linter.unusedSimpArgs false
set_option linter.unusedVariables false
open Go.RowKit
def params : Nat → List AV → Tm
  | _, [] => []
  | i, x :: r => (i, x) :: params (i + 1) r
def resK (T : TypeId → TI) (L : List AObj) : List ResultVar → Tm → (List AV → Prop) → Prop
  | [], _, k => k []
  | .tmp t :: r, tm, k => fRes (lk tm t) fun x => resK T L r tm fun l => k (x :: l)
  | .cell p ty :: r, tm, k => loadK (T ty) (lk tm p) L fun _ x => resK T L r tm fun l => k (x :: l)
def wkR (L L' : List AObj) (y r : AV) : Prop :=
  match r with
  | .tup xs => fAV y fun y => match y with
    | .tup ys => wkAs L L' ys xs
    | _ => False
  | r => wkA L L' y r
def oneOr (l : List AV) : AV := match l with | [x] => x | l => .tup l
def EndS (k0 : Nat) (r : AV) (H' : List AObj) (y : AV) (L : List AObj) : List (Nat × Nat) → Prop
  | [] => wkR L H' y r ∧ (Nat.ble k0 H'.length && AV.lt H'.length r && AObj.lts H'.length H') = true ∧ wkL L H' L H'
  | (a, b) :: s => match Nat.beq b L.length with
    | true => Nat.blt a L.length = true ∧ fAV (y.rn (mvN a b)) fun y => EndS k0 r H' y (mvL a L) s
    | false => match Nat.beq a b with
      | true => (Nat.ble k0 a && Nat.ble a L.length) = true ∧ fAV (y.cut a) fun y => EndS k0 r H' y (cutL a a L) s
      | false => swOk k0 a b L = true ∧ fAV (y.rn (swN a b)) fun y => EndS k0 r H' y (swL a b L) s
def retK (T : TypeId → TI) (res : List ResultVar) (k0 : Nat) (r : AV) (H' : List AObj) (e : Exit) (tm : Tm) (L : List AObj) : Prop :=
  match e with
  | .normal => resK T L res tm fun l => fAV (oneOr l) fun y => ∃ sw, EndS k0 r H' y L sw
  | .ret => resK T L res tm fun l => fAV (oneOr l) fun y => ∃ sw, EndS k0 r H' y L sw
  | _ => False
section
variable {P : Program} {w w' : World} {F F' : Nat → Prop} {ρ ρ' : Nat → Option Value} {L L' : List AObj} {T : TypeId → TI} {E : Nat → Bool} {N : Nat} {tm tm' : Tm} {a : Act}
theorem params_lk : ∀ (xs : List AV) (i d : Nat), lk (params i xs) d = if i ≤ d then (xs[d - i]?).getD .any else .any
  | [], i, d => by simp [params, lk]
  | x :: r, i, d => by
    rw [params, lk_cons, params_lk r (i + 1) d]
    by_cases e : i = d
    · subst e; simp
    · rw [if_neg e]
      by_cases h : i + 1 ≤ d
      · rw [if_pos h, if_pos (by omega), show d - i = (d - (i + 1)) + 1 by omega]; simp
      · rw [if_neg h, if_neg (by omega)]
theorem wkR_out (En : Env F ρ (hp L) w) {y x : AV} {v : Value} (h : wkR L L' y x) (hl : AV.lt L'.length x = true) (hv : RA w F ρ y v) : RA w (fun b => F b ∨ frz ρ L L' b) (rlow ρ L.length L'.length) x v := by
  unfold wkR at h
  split at h
  · rename_i xs
    have h := fAV_iff.1 h
    split at h
    · cases hv with | tup hv => exact .tup (wkAs_out En h (by simpa [AV.lt] using hl) hv)
    · exact h.elim
  · exact wkA_out En h hl hv
/-- One result. -/
def getRes (tmps : Array Value) : ResultVar → Sem Value
  | .tmp t => pure (tmps.getD t undef)
  | .cell a t => do loadVar t (← asAddr (tmps.getD a undef))
theorem resK_out {F : Nat → Prop} {ρ : Nat → Option Value} (En : Env F ρ (hp L) w) (Sl : Slots w F ρ N tm a) : ∀ {res : List ResultVar} {k : List AV → Prop}, resK (tiOf P) L res tm k → ∃ l vs, k l ∧ RAs w F ρ l vs ∧ (res.mapM (getRes a.tmps)).run P w = .ok vs w
  | [], k, h => ⟨[], [], h, .nil, by simp⟩
  | .tmp t :: r, k, h => by
    obtain ⟨l, vs, h1, h2, h3⟩ := resK_out En Sl (fRes_out h)
    exact ⟨_, _ :: vs, h1, .cons (Sl.1 t) h2, by simp [getRes, h3]⟩
  | .cell p ty :: r, k, h => by
    obtain ⟨e, x, h, _, _, hr⟩ := loadK_run h
    obtain ⟨l, vs, h1, h2, h3⟩ := resK_out En Sl h
    obtain ⟨u, hu, hx⟩ := hr (hp L) F ρ w _ En (fun _ _ => rfl) (Sl.1 p)
    refine ⟨_, u :: vs, h1, .cons hx h2, ?_⟩
    have hl : (getRes a.tmps (.cell p ty)).run P w = .ok u w := by
      show (asAddr (a.tmps.getD p undef) >>= loadVar ty).run P w = .ok u w
      have hu : (Instr.sureAddr (a.tmps.getD p undef) >>= loadVar ty).run P w = .ok u w := hu
      revert hu
      generalize a.tmps.getD p undef = q
      intro hu
      cases q with
      | pointer q =>
        cases q with
        | some q => simpa [Instr.sureAddr, asAddr] using hu
        | none => simp [Instr.sureAddr] at hu
      | _ => simp [Instr.sureAddr] at hu
    simp [hl, h3]
theorem run_results {fn : Func} {tmps : Array Value} {vs : List Value} (h : (fn.results.toList.mapM (getRes tmps)).run P w = .ok vs w) : ∃ v, (results fn tmps).run P w = .ok v w ∧ ∀ F ρ l, RAs w F ρ l vs → RA w F ρ (oneOr l) v := by
  have hr : (results fn tmps).run P w = .ok (if h : vs.toArray.size = 1 then vs.toArray[0] else .tuple vs.toArray) w := by
    have e : results fn tmps = (do let vs ← List.toArray <$> fn.results.toList.mapM (getRes tmps); pure (if h : vs.size = 1 then vs[0] else .tuple vs)) := by
      unfold results
      rw [Array.mapM_eq_mapM_toList]
      congr 2
    rw [e]
    simp [h]
  refine ⟨_, hr, fun F ρ l hl => ?_⟩
  have hlen := hl.length
  cases hl with
  | nil => simpa [oneOr] using RA.tup (F := F) (ρ := ρ) (w := w) .nil
  | cons h1 hrest =>
    cases hrest with
    | nil => simpa [oneOr] using h1
    | cons h2 hrest =>
      have : RA w F ρ (.tup _) (.tuple _) := .tup (.cons h1 (.cons h2 hrest))
      simpa [oneOr] using this
theorem EndS.out {k0 : Nat} {r : AV} {H' : List AObj} {v : Value} : ∀ {sw : List (Nat × Nat)} {y : AV} {L : List AObj} {ρ : Nat → Option Value}, EndS k0 r H' y L sw → k0 ≤ L.length → Env F ρ (hp L) w → RA w F ρ y v →
    ∃ F' ρ', Step F ρ (hp L) w F' ρ' (hp H') w ∧ (∀ i h, i < k0 → ρ i = some h → ρ' i = some h) ∧ Env F' ρ' (hp H') w ∧ RA w F' ρ' r v
  | [], y, L, ρ, h, hk, En, hv => by
    obtain ⟨h4, h5, h6⟩ := h
    simp only [Bool.and_eq_true, Nat.ble_eq] at h5
    obtain ⟨S2, E2⟩ := En.weak h5.2 h6
    refine ⟨_, _, S2, fun i u hi hu => ?_, E2, wkR_out En h4 h5.1.2 hv⟩
    unfold rlow
    rw [if_pos (by omega), if_pos (by omega)]
    exact hu
  | (c, d) :: s, y, L, ρ, h, hk, En, hv => by
    unfold EndS at h
    split at h
    · rename_i hd
      have hd := Nat.eq_of_beq_eq_true hd
      subst hd
      obtain ⟨h1, h2⟩ := h
      obtain ⟨S1, K1, f1, E1⟩ := En.mv (a := c) (by simpa [Nat.blt_eq] using h1)
      obtain ⟨F', ρ', S2, K2, E2, R2⟩ := EndS.out (fAV_iff.1 h2) (by rw [mvL_length]; omega) E1 (hv.rn f1)
      exact ⟨F', ρ', S1.trans S2, fun i u hi hu => K2 i u hi (K1 i u hu), E2, R2⟩
    split at h
    · obtain ⟨h1, h2⟩ := h
      simp only [Bool.and_eq_true, Nat.ble_eq] at h1
      obtain ⟨h1, hle⟩ := h1
      obtain ⟨S1, E1⟩ := En.cut c
      obtain ⟨F', ρ', S2, K2, E2, R2⟩ := EndS.out (fAV_iff.1 h2) (by rw [cutL_length hle]; exact h1) E1 hv.cut
      exact ⟨F', ρ', S1.trans S2, fun i u hi hu => K2 i u hi (lo_in (by omega) hu), E2, R2⟩
    obtain ⟨h1, h2⟩ := h
    obtain ⟨g1, g2, g3, g4⟩ := swOk_out h1
    obtain ⟨S1, E1⟩ := En.sw g3 g4
    obtain ⟨F', ρ', S2, K2, E2, R2⟩ := EndS.out (fAV_iff.1 h2) (by rw [swL_length]; exact hk) E1 hv.sw
    refine ⟨F', ρ', S1.trans S2, fun i u hi hu => K2 i u hi ?_, E2, R2⟩
    show ρ (swN c d i) = some u
    rw [swN_ne (by omega) (by omega)]
    exact hu
/-- **From the conditions of a function's body to its contract.** -/
theorem sat_of_vc {g : FuncId} {fn : Func} {c : Code} {args : List AV} {H H' : List AObj} {r : AV} (hf : P.funcs[g]? = some fn) (hb : fn.body = some c) (hT : T = tiOf P) (hE : ∀ g, E g = true → entersB P g = true) (hm : P.follows .mixedOrders = true)
    (hn : Nat.ble args.length fn.ntmps = true) (h : vcCode P T E H.length fn.ntmps c (params 0 args) H (retK T fn.results.toList H.length r H')) : Sat P g args H r H' := by
  intro F ρ w vals En hv
  have hl := hv.length
  have hn := Nat.le_of_ble_eq_true hn
  have hk0 : ∀ i v, ρ i = some v → i < H.length := fun i v hi => by
    rcases Nat.lt_or_ge i H.length with q | q
    · exact q
    · rw [En.abs i (List.getElem?_eq_none q)] at hi; cases hi
  refine calls_of_wp hf hb (wp_mono (vcCode_out hT hE hm hk0 c _ H _ _ w h ⟨F, ρ, Step.refl _ _ _ _, Keep.refl _, En, ⟨fun d => ?_, ?_, rfl⟩, Nat.le_refl _⟩) fun e a' w' ⟨tm', L', hq, F', ρ', S1, K1, E1, Sl1, hle⟩ => ?_)
  · rw [params_lk, if_pos (Nat.zero_le _), Nat.sub_zero]
    cases hd : args[d]? with
    | none => exact .any _
    | some x =>
      obtain ⟨v, h1, h2⟩ := hv.get hd
      have hlt := (List.getElem?_eq_some_iff.1 h1).1
      have : (vals.toArray ++ Array.replicate (fn.ntmps - vals.toArray.size) undef).getD d undef = v := by
        rw [Array.getD_eq_getD_getElem?, Array.getElem?_append_left (by simpa using hlt)]
        simp [h1]
      rw [this]; exact h2
  · simp; omega
  · have fin : (resK T L' fn.results.toList tm' fun l => fAV (oneOr l) fun y => ∃ sw, EndS H.length r H' y L' sw) →
        a'.defers = [] ∧ ∃ v, (results fn a'.tmps).run P w' = .ok v w' ∧ ∃ v', Ending.returned v = .returned v' ∧ Post F ρ (hp H) w (hp H') r v' w' := by
      intro h
      subst hT
      obtain ⟨l, vs, h1, h2, h3⟩ := resK_out E1 Sl1 h
      obtain ⟨sw, h4⟩ := fAV_iff.1 h1
      obtain ⟨v, hrun, hv'⟩ := run_results h3
      obtain ⟨F2, ρ2, S2, K2, E2, R2⟩ := h4.out hle E1 (hv' _ _ _ h2)
      exact ⟨Sl1.2.2, v, hrun, v, rfl, _, _, S1.trans S2, fun i u hi => K2 i u (hk0 i u hi) (K1 i u hi), E2, R2⟩
    cases e with
    | normal => exact fin hq
    | ret => exact fin hq
    | _ => exact hq.elim
end
end Go.Proofs.Ytgidaifoiljgoaa
