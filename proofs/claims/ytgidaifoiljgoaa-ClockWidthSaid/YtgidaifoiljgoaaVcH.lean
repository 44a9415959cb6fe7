/- Addresses, fields, elements, lengths. No program is named here. -/
import Derived.Test.YtgidaifoiljgoaaVcG
namespace Go.Proofs.Ytgidaifoiljgoaa
set_option linter.unusedSimpArgs false
set_option linter.unusedVariables false
open Go.RowKit
def pairK : List (Nat × Nat) → Nat → (Nat → Nat → Prop) → Prop
  | [], _, _ => False
  | (a, b) :: _, 0, k => k a b
  | _ :: r, n + 1, k => pairK r n k
theorem pairK_out {k : Nat → Nat → Prop} : ∀ {xs : List (Nat × Nat)} {n : Nat}, pairK xs n k → ∃ a b, xs[n]? = some (a, b) ∧ k a b
  | [], _, h => h.elim
  | (a, b) :: _, 0, h => ⟨a, b, rfl, h⟩
  | _ :: r, n + 1, h => by simpa using pairK_out (xs := r) (n := n) h
def posK (n : Nat) (p : Prop) : Prop := match n with | 0 => False | _ + 1 => p
theorem posK_out {n : Nat} {p : Prop} (h : posK n p) : 0 < n ∧ p := by cases n with | zero => exact h.elim | succ n => exact ⟨by omega, h⟩
def eqK (a b : Nat) (p : Prop) : Prop := match Nat.beq a b with | true => p | false => False
theorem eqK_out {a b : Nat} {p : Prop} (h : eqK a b p) : a = b ∧ p := by
  unfold eqK at h
  split at h
  · rename_i hb; exact ⟨Nat.eq_of_beq_eq_true hb, h⟩
  · exact h.elim
section
variable {P : Program} {w w' : World} {F F' : Nat → Prop} {ρ ρ' : Nat → Option Value} {H : Hp} {L : List AObj} {ty : TypeId} {n : Nat}
theorem ti_non {t : TypeId} (h : (tiOf P t).kind = .non) : tiOf P t = ⟨.non, 0, [], [], 0, 0, 0, 0, 0⟩ := by
  unfold tiOf at h ⊢
  cases hi : P.info? t with
  | none => rfl
  | some i =>
    cases hd : P.underlying t with
    | none => rfl
    | some d =>
      cases hz : i.zero with
      | none => simp only [hz]
      | some z =>
        cases hc : (z.cells.toList.all (·.oneCell') && z.cells.size == i.size) with
        | false => simp only [hz, hc]; rfl
        | true => simp only [hi, hd, hz, hc, if_true] at h; cases d <;> cases h
theorem ti_size_pos {t : TypeId} (h : 0 < (tiOf P t).size) : (tiOf P t).kind ≠ .non := fun e => by rw [ti_non e] at h; simp at h
theorem ti_field {t : TypeId} {f off ft : Nat} (h : (tiOf P t).fields[f]? = some (off, ft)) : ∃ fs fd, P.underlying t = some (.struct fs) ∧ fs[f]? = some fd ∧ fd.offset = off ∧ fd.type = ft := by
  have hk : (tiOf P t).kind ≠ .non := fun e => by rw [ti_non e] at h; simp at h
  obtain ⟨i, d, z, hT, he⟩ := tiOf_known hk
  rw [he] at h
  cases d <;> try (simp at h; done)
  rename_i fs
  simp only [List.getElem?_map, Option.map_eq_some_iff, Prod.mk.injEq] at h
  obtain ⟨fd, h1, h2, h3⟩ := h
  exact ⟨fs, fd, hT.und, by simpa using h1, h2, h3⟩
theorem run_fieldAt {t : TypeId} {f off ft : Nat} (h : (tiOf P t).fields[f]? = some (off, ft)) (hp : 0 < (tiOf P ft).size) (b o : Nat) : (Instr.fieldAt t (.pointer (some ⟨b, o, none⟩)) f).run P w = .ok (.pointer (some ⟨b, o + off, none⟩)) w := by
  obtain ⟨fs, fd, h1, h2, h3, h4⟩ := ti_field h
  obtain ⟨i, d, z, hT, he⟩ := tiOf_known (ti_size_pos hp)
  have hs : (tiOf P ft).size = i.size := by rw [he]; cases d <;> rfl
  have hne : ¬ i.size = 0 := by omega
  subst h3 h4
  simp [Instr.fieldAt, run_underlying h1, h2, Instr.sureAddr, fieldPlace, sizeOf, typeInfo, hT.info, hne, Addr.add_lit]
def fieldAddrK (T : TypeId → TI) (t : TypeId) (f : Nat) (x : AV) (K : Eff → AV → Prop) : Prop :=
  pairK (T t).fields f fun off ft => posK (T ft).size <| match x with
  | .ptr i o => K e0 (.ptr i (o + off))
  | .ep i sz m g => K e0 (.ep i sz m (g + off))
  | .fp xs => dropK xs off fun l => K e0 (.fp l)
  | _ => False
theorem fieldAddrK_out {t : TypeId} {f : Nat} {x : AV} {a : Operand} {K : Eff → AV → Prop} (h : fieldAddrK (tiOf P) t f x K) : ∃ e r, K e r ∧ Does P (.fieldAddr t a f) ty L n [x] e r := by
  obtain ⟨off, ft, hf, h⟩ := pairK_out h
  obtain ⟨hp, h⟩ := posK_out h
  have fin : ∀ {r : AV}, K e0 r → (∀ (w : World) (F : Nat → Prop) (ρ : Nat → Option Value) (v : Value), RA w F ρ x v → ∃ b o, v = .pointer (some ⟨b, o, none⟩) ∧ RA w F ρ r (.pointer (some ⟨b, o + off, none⟩))) → ∃ e r, K e r ∧ Does P (.fieldAddr t a f) ty L n [x] e r := by
    intro r hK hr
    refine ⟨_, _, hK, does_val fun op w F ρ ev ho _ hx => ?_⟩
    obtain ⟨v, e', hv⟩ := hx.one_out
    simp [Op.operands] at e'
    obtain ⟨b, o, rfl, h2⟩ := hr w F ρ v hv
    exact ⟨_, by simp [execOp, ho, e', run_fieldAt hf hp], h2⟩
  split at h
  · refine fin h fun w F ρ v hv => ?_
    cases hv with | ptr hv => exact ⟨_, _, rfl, .ptr hv⟩
  · refine fin h fun w F ρ v hv => ?_
    cases hv with | ep hv => exact ⟨_, _, rfl, by rw [Nat.add_assoc, Nat.add_assoc]; exact .ep hv⟩
  · have h := (dropK_out h).2
    refine fin h fun w F ρ v hv => ?_
    cases hv with | fp hb hr hc =>
      refine ⟨_, _, rfl, .fp hb (hr.drop off) fun j hj => ?_⟩
      rw [Nat.add_assoc, List.getElem_drop]
      exact hc _ _
  · exact h.elim
/-! ### parts of values -/
theorem run_part {t : TypeId} (hk : (tiOf P t).kind ≠ .non) {vs : List Value} {off : Nat} {v : Value}
    (h1 : (tiOf P t).kind = .one ∨ (tiOf P t).kind = .sli → vs[off]? = some v) (h2 : (tiOf P t).kind = .st ∨ (tiOf P t).kind = .arr → off + (tiOf P t).size ≤ vs.length ∧ v = .agg ((vs.drop off).take (tiOf P t).size).toArray) :
    (part t vs.toArray off).run P w = .ok v w := by
  obtain ⟨i, d, z, hT, he⟩ := tiOf_known hk
  have hs : (tiOf P t).size = i.size := by rw [he]; cases d <;> rfl
  have agg : (tiOf P t).kind = .st ∨ (tiOf P t).kind = .arr → (isAgg t).run P w = .ok true w → (part t vs.toArray off).run P w = .ok v w := by
    intro hk ha
    obtain ⟨g1, g2⟩ := h2 hk
    subst g2
    simp [part, ha, sizeOf, typeInfo, hT.info, hs]
  have one : (tiOf P t).kind = .one ∨ (tiOf P t).kind = .sli → (isAgg t).run P w = .ok false w → (part t vs.toArray off).run P w = .ok v w := by
    intro hk ha
    have g := h1 hk
    simp [part, ha, g]
  cases d with
  | struct fs => exact agg (.inl (by rw [he])) (by simp [isAgg, run_underlying hT.und])
  | array m e => exact agg (.inr (by rw [he])) (by simp [isAgg, run_underlying hT.und])
  | slice e => exact one (.inr (by rw [he])) (by simp [isAgg, run_underlying hT.und])
  | _ => exact one (.inl (by rw [he])) (by simp [isAgg, run_underlying hT.und])
theorem aggDK_part {t : TypeId} {xs : List D} {off : Nat} {k : AV → Prop} (h : aggDK (tiOf P t) (xs.drop off) k) (hx : off ≤ xs.length) :
    ∃ r, k r ∧ ∀ w F ρ vs, RDs w F xs vs → ∃ v, (part t vs.toArray off).run P w = .ok v w ∧ RA w F ρ r v := by
  have one : ((tiOf P t).kind = .one ∨ (tiOf P t).kind = .sli) → getDK (xs.drop off) 0 (fun y => k (.d y)) → ∃ r, k r ∧ ∀ w F ρ vs, RDs w F xs vs → ∃ v, (part t vs.toArray off).run P w = .ok v w ∧ RA w F ρ r v := by
    intro hk h
    obtain ⟨y, hy, hky⟩ := getDK_out h
    refine ⟨_, hky, fun w F ρ vs hr => ?_⟩
    obtain ⟨v, hv, h1, _⟩ := (hr.drop off).get hy
    refine ⟨v, run_part (by rcases hk with e | e <;> rw [e] <;> simp) (fun _ => by simpa [List.getElem?_drop] using hv) (fun e => ?_), .d h1⟩
    rcases hk with e1 | e1 <;> rcases e with e | e <;> rw [e1] at e <;> cases e
  have agg : ((tiOf P t).kind = .st ∨ (tiOf P t).kind = .arr) → (tiOf P t).size ≤ (xs.drop off).length → k (.d (.agg ((xs.drop off).take (tiOf P t).size))) → ∃ r, k r ∧ ∀ w F ρ vs, RDs w F xs vs → ∃ v, (part t vs.toArray off).run P w = .ok v w ∧ RA w F ρ r v := by
    intro hk hl h
    refine ⟨_, h, fun w F ρ vs hr => ?_⟩
    have hvl := hr.length
    refine ⟨_, run_part (by rcases hk with e | e <;> rw [e] <;> simp) (fun e => ?_) (fun _ => ⟨by simp at hl; omega, rfl⟩), .d (.agg ((hr.drop off).take _))⟩
    rcases hk with e1 | e1 <;> rcases e with e | e <;> rw [e1] at e <;> cases e
  unfold aggDK at h
  cases hk : (tiOf P t).kind with
  | non => rw [hk] at h; exact h.elim
  | one => rw [hk] at h; exact one (.inl hk) h
  | sli => rw [hk] at h; exact one (.inr hk) h
  | st =>
    rw [hk] at h
    simp only at h
    split at h
    · obtain ⟨ys, rfl, h2, h3⟩ := h; exact agg (.inl hk) (by rw [List.length_take] at h2; omega) h3
    · obtain ⟨h1, h2⟩ := takeK_out h; exact agg (.inl hk) h1 h2
  | arr =>
    rw [hk] at h
    simp only at h
    split at h
    · obtain ⟨ys, rfl, h2, h3⟩ := h; exact agg (.inr hk) (by rw [List.length_take] at h2; omega) h3
    · obtain ⟨h1, h2⟩ := takeK_out h; exact agg (.inr hk) h1 h2
theorem aggAK_part {t : TypeId} {xs : List AV} {off : Nat} {k : AV → Prop} (h : aggAK (tiOf P t) (xs.drop off) k) (hx : off ≤ xs.length) :
    ∃ r, k r ∧ ∀ w F ρ vs, RAs w F ρ xs vs → (∀ v ∈ vs, v.oneCell' = true) → ∃ v, (part t vs.toArray off).run P w = .ok v w ∧ RA w F ρ r v := by
  have one : ((tiOf P t).kind = .one ∨ (tiOf P t).kind = .sli) → getK (xs.drop off) 0 k → ∃ r, k r ∧ ∀ w F ρ vs, RAs w F ρ xs vs → (∀ v ∈ vs, v.oneCell' = true) → ∃ v, (part t vs.toArray off).run P w = .ok v w ∧ RA w F ρ r v := by
    intro hk h
    obtain ⟨y, hy, hky⟩ := getK_out h
    refine ⟨_, hky, fun w F ρ vs hr _ => ?_⟩
    obtain ⟨v, hv, h1⟩ := (hr.drop off).get hy
    refine ⟨v, run_part (by rcases hk with e | e <;> rw [e] <;> simp) (fun _ => by simpa [List.getElem?_drop] using hv) (fun e => ?_), h1⟩
    rcases hk with e1 | e1 <;> rcases e with e | e <;> rw [e1] at e <;> cases e
  have agg : ((tiOf P t).kind = .st ∨ (tiOf P t).kind = .arr) → takeK (xs.drop off) (tiOf P t).size (fun ys => mkAggK ys k) → ∃ r, k r ∧ ∀ w F ρ vs, RAs w F ρ xs vs → (∀ v ∈ vs, v.oneCell' = true) → ∃ v, (part t vs.toArray off).run P w = .ok v w ∧ RA w F ρ r v := by
    intro hk h
    obtain ⟨hl, h⟩ := takeK_out h
    obtain ⟨r, h1, h2⟩ := mkAggK_out h
    refine ⟨r, h1, fun w F ρ vs hr ho => ?_⟩
    have hvl := hr.length
    refine ⟨_, run_part (by rcases hk with e | e <;> rw [e] <;> simp) (fun e => ?_) (fun _ => ⟨by simp at hl; omega, rfl⟩), h2 w F ρ _ ((hr.drop off).take _) fun v hv => ho v (List.mem_of_mem_drop (List.mem_of_mem_take hv))⟩
    rcases hk with e1 | e1 <;> rcases e with e | e <;> rw [e1] at e <;> cases e
  unfold aggAK at h
  cases hk : (tiOf P t).kind with
  | non => rw [hk] at h; exact h.elim
  | one => rw [hk] at h; exact one (.inl hk) h
  | sli => rw [hk] at h; exact one (.inr hk) h
  | st => rw [hk] at h; exact agg (.inl hk) h
  | arr => rw [hk] at h; exact agg (.inr hk) h
def fieldK (T : TypeId → TI) (t : TypeId) (f : Nat) (x : AV) (K : Eff → AV → Prop) : Prop :=
  pairK (T t).fields f fun off ft => match x with
  | .agg cs => dropK cs off fun l => aggAK (T ft) l (K e0)
  | .d (.agg ds) => match bigB (T t).size with
    | true => off ≤ ds.length ∧ ∃ l, ds.drop off = l ∧ loadK.rowK (T ft) l (K e0)
    | false => dropK ds off fun l => aggDK (T ft) l (K e0)
  | _ => False
theorem fieldK_out {t : TypeId} {f : Nat} {x : AV} {a : Operand} {K : Eff → AV → Prop} (h : fieldK (tiOf P) t f x K) : ∃ e r, K e r ∧ Does P (.field t a f) ty L n [x] e r := by
  obtain ⟨off, ft, hf, h⟩ := pairK_out h
  obtain ⟨fs, fd, h1, h2, h3, h4⟩ := ti_field hf
  subst h3 h4
  have fin : ∀ {r : AV}, K e0 r → (∀ (w : World) (F : Nat → Prop) (ρ : Nat → Option Value) (v : Value), RA w F ρ x v → ∃ vs u, v = .agg (List.toArray vs) ∧ (part fd.type vs.toArray fd.offset).run P w = .ok u w ∧ RA w F ρ r u) → ∃ e r, K e r ∧ Does P (.field t a f) ty L n [x] e r := by
    intro r hK hr
    refine ⟨_, _, hK, does_val fun op w F ρ ev ho _ hx => ?_⟩
    obtain ⟨v, e', hv⟩ := hx.one_out
    simp [Op.operands] at e'
    obtain ⟨vs, u, rfl, g1, g2⟩ := hr w F ρ v hv
    exact ⟨_, by simp [execOp, ho, e', Instr.field, run_underlying h1, h2, asAgg, g1], g2⟩
  split at h
  · rename_i cs
    obtain ⟨hle, h⟩ := dropK_out h
    obtain ⟨r, hK, hr⟩ := aggAK_part h hle
    refine fin hK fun w F ρ v hv => ?_
    cases hv with | agg hv ho =>
      obtain ⟨u, g1, g2⟩ := hr w F ρ _ hv ho
      exact ⟨_, u, rfl, g1, g2⟩
  · rename_i ds
    split at h
    · obtain ⟨hle, l, rfl, h⟩ := h
      obtain ⟨r, hK, hr⟩ := aggDK_part (rowK_out h) hle
      refine fin hK fun w F ρ v hv => ?_
      cases hv with | d hv => cases hv with | agg hv =>
        obtain ⟨u, g1, g2⟩ := hr w F ρ _ hv
        exact ⟨_, u, rfl, g1, g2⟩
    · obtain ⟨hle, h⟩ := dropK_out h
      obtain ⟨r, hK, hr⟩ := aggDK_part h hle
      refine fin hK fun w F ρ v hv => ?_
      cases hv with | d hv => cases hv with | agg hv =>
        obtain ⟨u, g1, g2⟩ := hr w F ρ _ hv
        exact ⟨_, u, rfl, g1, g2⟩
  · exact h.elim
end
end Go.Proofs.Ytgidaifoiljgoaa
