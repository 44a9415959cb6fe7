/- Parts VcH, VcI, VcJ, VcK0, VcR, VcS, VcK, Blks of the proof, put together. -/
import Derived.Test.YtpnbpcdmiiakcaaDoorM1
import Derived.Great.BuildSlice
import Derived.LoopN
import Derived.Laws.MakeOwn
import Derived.Laws.OwnMore
import Derived.Great.FillDense
/- Addresses, fields, elements, lengths. No program is named here. -/
namespace Go.Proofs.YtpnbpcdmiiakcaaDoor
set_option linter.unusedSimpArgs false
set_option linter.unusedVariables false
open Go.RowKit
def pairK : List (Nat × Nat) → Nat → (Nat → Nat → Prop) → Prop
  | [], _, _ => False
  | (a, b) :: _, 0, k => k a b
  | _ :: r, n + 1, k => pairK r n k
theorem pairK_out {k : Nat → Nat → Prop} : ∀ {xs : List (Nat × Nat)} {n : Nat}, pairK xs n k → ∃ a b, xs[n]? = some (a, b) ∧ k a b
  | [], _, h => h.elim
  | (a, b) :: _, 0, h => ⟨a, b, rfl, h⟩
  | _ :: r, n + 1, h => by simpa using pairK_out (xs := r) (n := n) h
def posK (n : Nat) (p : Prop) : Prop := match n with | 0 => False | _ + 1 => p
theorem posK_out {n : Nat} {p : Prop} (h : posK n p) : 0 < n ∧ p := by cases n with | zero => exact h.elim | succ n => exact ⟨by omega, h⟩
def eqK (a b : Nat) (p : Prop) : Prop := match Nat.beq a b with | true => p | false => False
theorem eqK_out {a b : Nat} {p : Prop} (h : eqK a b p) : a = b ∧ p := by
  unfold eqK at h
  split at h
  · rename_i hb; exact ⟨Nat.eq_of_beq_eq_true hb, h⟩
  · exact h.elim
section
variable {P : Program} {w w' : World} {F F' : Nat → Prop} {ρ ρ' : Nat → Option Value} {H : Hp} {L : List AObj} {ty : TypeId} {n : Nat}
theorem ti_non {t : TypeId} (h : (tiOf P t).kind = .non) : tiOf P t = ⟨.non, 0, [], [], 0, 0, 0, 0, 0⟩ := by
  unfold tiOf at h ⊢
  cases hi : P.info? t with
  | none => rfl
  | some i =>
    cases hd : P.underlying t with
    | none => rfl
    | some d =>
      cases hz : i.zero with
      | none => simp only [hz]
      | some z =>
        cases hc : (z.cells.toList.all (·.oneCell') && z.cells.size == i.size) with
        | false => simp only [hz, hc]; rfl
        | true => simp only [hi, hd, hz, hc, if_true] at h; cases d <;> cases h
theorem ti_size_pos {t : TypeId} (h : 0 < (tiOf P t).size) : (tiOf P t).kind ≠ .non := fun e => by rw [ti_non e] at h; simp at h
theorem ti_field {t : TypeId} {f off ft : Nat} (h : (tiOf P t).fields[f]? = some (off, ft)) : ∃ fs fd, P.underlying t = some (.struct fs) ∧ fs[f]? = some fd ∧ fd.offset = off ∧ fd.type = ft := by
  have hk : (tiOf P t).kind ≠ .non := fun e => by rw [ti_non e] at h; simp at h
  obtain ⟨i, d, z, hT, he⟩ := tiOf_known hk
  rw [he] at h
  cases d <;> try (simp at h; done)
  rename_i fs
  simp only [List.getElem?_map, Option.map_eq_some_iff, Prod.mk.injEq] at h
  obtain ⟨fd, h1, h2, h3⟩ := h
  exact ⟨fs, fd, hT.und, by simpa using h1, h2, h3⟩
theorem run_fieldAt {t : TypeId} {f off ft : Nat} (h : (tiOf P t).fields[f]? = some (off, ft)) (hp : 0 < (tiOf P ft).size) (b o : Nat) : (Instr.fieldAt t (.pointer (some ⟨b, o, none⟩)) f).run P w = .ok (.pointer (some ⟨b, o + off, none⟩)) w := by
  obtain ⟨fs, fd, h1, h2, h3, h4⟩ := ti_field h
  obtain ⟨i, d, z, hT, he⟩ := tiOf_known (ti_size_pos hp)
  have hs : (tiOf P ft).size = i.size := by rw [he]; cases d <;> rfl
  have hne : ¬ i.size = 0 := by omega
  subst h3 h4
  simp [Instr.fieldAt, run_underlying h1, h2, Instr.sureAddr, fieldPlace, sizeOf, typeInfo, hT.info, hne, Addr.add_lit]
def fieldAddrK (T : TypeId → TI) (t : TypeId) (f : Nat) (x : AV) (K : Eff → AV → Prop) : Prop :=
  pairK (T t).fields f fun off ft => posK (T ft).size <| match x with
  | .ptr i o => K e0 (.ptr i (o + off))
  | .ep i sz m g => K e0 (.ep i sz m (g + off))
  | .fp xs => dropK xs off fun l => K e0 (.fp l)
  | _ => False
theorem fieldAddrK_out {t : TypeId} {f : Nat} {x : AV} {a : Operand} {K : Eff → AV → Prop} (h : fieldAddrK (tiOf P) t f x K) : ∃ e r, K e r ∧ Does P (.fieldAddr t a f) ty L n [x] e r := by
  obtain ⟨off, ft, hf, h⟩ := pairK_out h
  obtain ⟨hp, h⟩ := posK_out h
  have fin : ∀ {r : AV}, K e0 r → (∀ (w : World) (F : Nat → Prop) (ρ : Nat → Option Value) (v : Value), RA w F ρ x v → ∃ b o, v = .pointer (some ⟨b, o, none⟩) ∧ RA w F ρ r (.pointer (some ⟨b, o + off, none⟩))) → ∃ e r, K e r ∧ Does P (.fieldAddr t a f) ty L n [x] e r := by
    intro r hK hr
    refine ⟨_, _, hK, does_val fun op w F ρ ev ho _ hx => ?_⟩
    obtain ⟨v, e', hv⟩ := hx.one_out
    simp [Op.operands] at e'
    obtain ⟨b, o, rfl, h2⟩ := hr w F ρ v hv
    exact ⟨_, by simp [execOp, ho, e', run_fieldAt hf hp], h2⟩
  split at h
  · refine fin h fun w F ρ v hv => ?_
    cases hv with | ptr hv => exact ⟨_, _, rfl, .ptr hv⟩
  · refine fin h fun w F ρ v hv => ?_
    cases hv with | ep hv => exact ⟨_, _, rfl, by rw [Nat.add_assoc, Nat.add_assoc]; exact .ep hv⟩
  · have h := (dropK_out h).2
    refine fin h fun w F ρ v hv => ?_
    cases hv with | fp hb hr hc =>
      refine ⟨_, _, rfl, .fp hb (hr.drop off) fun j hj => ?_⟩
      rw [Nat.add_assoc, List.getElem_drop]
      exact hc _ _
  · exact h.elim
/-! ### parts of values -/
theorem run_part {t : TypeId} (hk : (tiOf P t).kind ≠ .non) {vs : List Value} {off : Nat} {v : Value}
    (h1 : (tiOf P t).kind = .one ∨ (tiOf P t).kind = .sli → vs[off]? = some v) (h2 : (tiOf P t).kind = .st ∨ (tiOf P t).kind = .arr → off + (tiOf P t).size ≤ vs.length ∧ v = .agg ((vs.drop off).take (tiOf P t).size).toArray) :
    (part t vs.toArray off).run P w = .ok v w := by
  obtain ⟨i, d, z, hT, he⟩ := tiOf_known hk
  have hs : (tiOf P t).size = i.size := by rw [he]; cases d <;> rfl
  have agg : (tiOf P t).kind = .st ∨ (tiOf P t).kind = .arr → (isAgg t).run P w = .ok true w → (part t vs.toArray off).run P w = .ok v w := by
    intro hk ha
    obtain ⟨g1, g2⟩ := h2 hk
    subst g2
    simp [part, ha, sizeOf, typeInfo, hT.info, hs]
  have one : (tiOf P t).kind = .one ∨ (tiOf P t).kind = .sli → (isAgg t).run P w = .ok false w → (part t vs.toArray off).run P w = .ok v w := by
    intro hk ha
    have g := h1 hk
    simp [part, ha, g]
  cases d with
  | struct fs => exact agg (.inl (by rw [he])) (by simp [isAgg, run_underlying hT.und])
  | array m e => exact agg (.inr (by rw [he])) (by simp [isAgg, run_underlying hT.und])
  | slice e => exact one (.inr (by rw [he])) (by simp [isAgg, run_underlying hT.und])
  | _ => exact one (.inl (by rw [he])) (by simp [isAgg, run_underlying hT.und])
theorem aggDK_part {t : TypeId} {xs : List D} {off : Nat} {k : AV → Prop} (h : aggDK (tiOf P t) (xs.drop off) k) (hx : off ≤ xs.length) :
    ∃ r, k r ∧ ∀ w F ρ vs, RDs w F xs vs → ∃ v, (part t vs.toArray off).run P w = .ok v w ∧ RA w F ρ r v := by
  have one : ((tiOf P t).kind = .one ∨ (tiOf P t).kind = .sli) → getDK (xs.drop off) 0 (fun y => k (.d y)) → ∃ r, k r ∧ ∀ w F ρ vs, RDs w F xs vs → ∃ v, (part t vs.toArray off).run P w = .ok v w ∧ RA w F ρ r v := by
    intro hk h
    obtain ⟨y, hy, hky⟩ := getDK_out h
    refine ⟨_, hky, fun w F ρ vs hr => ?_⟩
    obtain ⟨v, hv, h1, _⟩ := (hr.drop off).get hy
    refine ⟨v, run_part (by rcases hk with e | e <;> rw [e] <;> simp) (fun _ => by simpa [List.getElem?_drop] using hv) (fun e => ?_), .d h1⟩
    rcases hk with e1 | e1 <;> rcases e with e | e <;> rw [e1] at e <;> cases e
  have agg : ((tiOf P t).kind = .st ∨ (tiOf P t).kind = .arr) → (tiOf P t).size ≤ (xs.drop off).length → k (.d (.agg ((xs.drop off).take (tiOf P t).size))) → ∃ r, k r ∧ ∀ w F ρ vs, RDs w F xs vs → ∃ v, (part t vs.toArray off).run P w = .ok v w ∧ RA w F ρ r v := by
    intro hk hl h
    refine ⟨_, h, fun w F ρ vs hr => ?_⟩
    have hvl := hr.length
    refine ⟨_, run_part (by rcases hk with e | e <;> rw [e] <;> simp) (fun e => ?_) (fun _ => ⟨by simp at hl; omega, rfl⟩), .d (.agg ((hr.drop off).take _))⟩
    rcases hk with e1 | e1 <;> rcases e with e | e <;> rw [e1] at e <;> cases e
  unfold aggDK at h
  cases hk : (tiOf P t).kind with
  | non => rw [hk] at h; exact h.elim
  | one => rw [hk] at h; exact one (.inl hk) h
  | sli => rw [hk] at h; exact one (.inr hk) h
  | st =>
    rw [hk] at h
    simp only at h
    split at h
    · obtain ⟨ys, rfl, h2, h3⟩ := h; exact agg (.inl hk) (by rw [List.length_take] at h2; omega) h3
    · obtain ⟨h1, h2⟩ := takeK_out h; exact agg (.inl hk) h1 h2
  | arr =>
    rw [hk] at h
    simp only at h
    split at h
    · obtain ⟨ys, rfl, h2, h3⟩ := h; exact agg (.inr hk) (by rw [List.length_take] at h2; omega) h3
    · obtain ⟨h1, h2⟩ := takeK_out h; exact agg (.inr hk) h1 h2
theorem aggAK_part {t : TypeId} {xs : List AV} {off : Nat} {k : AV → Prop} (h : aggAK (tiOf P t) (xs.drop off) k) (hx : off ≤ xs.length) :
    ∃ r, k r ∧ ∀ w F ρ vs, RAs w F ρ xs vs → (∀ v ∈ vs, v.oneCell' = true) → ∃ v, (part t vs.toArray off).run P w = .ok v w ∧ RA w F ρ r v := by
  have one : ((tiOf P t).kind = .one ∨ (tiOf P t).kind = .sli) → getK (xs.drop off) 0 k → ∃ r, k r ∧ ∀ w F ρ vs, RAs w F ρ xs vs → (∀ v ∈ vs, v.oneCell' = true) → ∃ v, (part t vs.toArray off).run P w = .ok v w ∧ RA w F ρ r v := by
    intro hk h
    obtain ⟨y, hy, hky⟩ := getK_out h
    refine ⟨_, hky, fun w F ρ vs hr _ => ?_⟩
    obtain ⟨v, hv, h1⟩ := (hr.drop off).get hy
    refine ⟨v, run_part (by rcases hk with e | e <;> rw [e] <;> simp) (fun _ => by simpa [List.getElem?_drop] using hv) (fun e => ?_), h1⟩
    rcases hk with e1 | e1 <;> rcases e with e | e <;> rw [e1] at e <;> cases e
  have agg : ((tiOf P t).kind = .st ∨ (tiOf P t).kind = .arr) → takeK (xs.drop off) (tiOf P t).size (fun ys => mkAggK ys k) → ∃ r, k r ∧ ∀ w F ρ vs, RAs w F ρ xs vs → (∀ v ∈ vs, v.oneCell' = true) → ∃ v, (part t vs.toArray off).run P w = .ok v w ∧ RA w F ρ r v := by
    intro hk h
    obtain ⟨hl, h⟩ := takeK_out h
    obtain ⟨r, h1, h2⟩ := mkAggK_out h
    refine ⟨r, h1, fun w F ρ vs hr ho => ?_⟩
    have hvl := hr.length
    refine ⟨_, run_part (by rcases hk with e | e <;> rw [e] <;> simp) (fun e => ?_) (fun _ => ⟨by simp at hl; omega, rfl⟩), h2 w F ρ _ ((hr.drop off).take _) fun v hv => ho v (List.mem_of_mem_drop (List.mem_of_mem_take hv))⟩
    rcases hk with e1 | e1 <;> rcases e with e | e <;> rw [e1] at e <;> cases e
  unfold aggAK at h
  cases hk : (tiOf P t).kind with
  | non => rw [hk] at h; exact h.elim
  | one => rw [hk] at h; exact one (.inl hk) h
  | sli => rw [hk] at h; exact one (.inr hk) h
  | st => rw [hk] at h; exact agg (.inl hk) h
  | arr => rw [hk] at h; exact agg (.inr hk) h
def fieldK (T : TypeId → TI) (t : TypeId) (f : Nat) (x : AV) (K : Eff → AV → Prop) : Prop :=
  pairK (T t).fields f fun off ft => match x with
  | .agg cs => dropK cs off fun l => aggAK (T ft) l (K e0)
  | .d (.agg ds) => match bigB (T t).size with
    | true => off ≤ ds.length ∧ ∃ l, ds.drop off = l ∧ loadK.rowK (T ft) l (K e0)
    | false => dropK ds off fun l => aggDK (T ft) l (K e0)
  | _ => False
theorem fieldK_out {t : TypeId} {f : Nat} {x : AV} {a : Operand} {K : Eff → AV → Prop} (h : fieldK (tiOf P) t f x K) : ∃ e r, K e r ∧ Does P (.field t a f) ty L n [x] e r := by
  obtain ⟨off, ft, hf, h⟩ := pairK_out h
  obtain ⟨fs, fd, h1, h2, h3, h4⟩ := ti_field hf
  subst h3 h4
  have fin : ∀ {r : AV}, K e0 r → (∀ (w : World) (F : Nat → Prop) (ρ : Nat → Option Value) (v : Value), RA w F ρ x v → ∃ vs u, v = .agg (List.toArray vs) ∧ (part fd.type vs.toArray fd.offset).run P w = .ok u w ∧ RA w F ρ r u) → ∃ e r, K e r ∧ Does P (.field t a f) ty L n [x] e r := by
    intro r hK hr
    refine ⟨_, _, hK, does_val fun op w F ρ ev ho _ hx => ?_⟩
    obtain ⟨v, e', hv⟩ := hx.one_out
    simp [Op.operands] at e'
    obtain ⟨vs, u, rfl, g1, g2⟩ := hr w F ρ v hv
    exact ⟨_, by simp [execOp, ho, e', Instr.field, run_underlying h1, h2, asAgg, g1], g2⟩
  split at h
  · rename_i cs
    obtain ⟨hle, h⟩ := dropK_out h
    obtain ⟨r, hK, hr⟩ := aggAK_part h hle
    refine fin hK fun w F ρ v hv => ?_
    cases hv with | agg hv ho =>
      obtain ⟨u, g1, g2⟩ := hr w F ρ _ hv ho
      exact ⟨_, u, rfl, g1, g2⟩
  · rename_i ds
    split at h
    · obtain ⟨hle, l, rfl, h⟩ := h
      obtain ⟨r, hK, hr⟩ := aggDK_part (rowK_out h) hle
      refine fin hK fun w F ρ v hv => ?_
      cases hv with | d hv => cases hv with | agg hv =>
        obtain ⟨u, g1, g2⟩ := hr w F ρ _ hv
        exact ⟨_, u, rfl, g1, g2⟩
    · obtain ⟨hle, h⟩ := dropK_out h
      obtain ⟨r, hK, hr⟩ := aggDK_part h hle
      refine fin hK fun w F ρ v hv => ?_
      cases hv with | d hv => cases hv with | agg hv =>
        obtain ⟨u, g1, g2⟩ := hr w F ρ _ hv
        exact ⟨_, u, rfl, g1, g2⟩
  · exact h.elim
end
end Go.Proofs.YtpnbpcdmiiakcaaDoor
/- Elements, tuples, lengths, literals. No program is named here. -/
namespace Go.Proofs.YtpnbpcdmiiakcaaDoor
set_option linter.unusedSimpArgs false
set_option linter.unusedVariables false
open Go.RowKit
section
variable {P : Program} {w w' : World} {F F' : Nat → Prop} {ρ ρ' : Nat → Option Value} {H : Hp} {L : List AObj} {ty : TypeId} {n : Nat}
theorem ti_sli {t : TypeId} (h : (tiOf P t).kind = .sli) : P.underlying t = some (.slice (tiOf P t).elem) ∧ P.cellsOf (tiOf P t).elem = (tiOf P t).esize ∧ P.bytesOf (tiOf P t).elem = (tiOf P t).ebytes := by
  obtain ⟨i, d, z, hT, he⟩ := tiOf_known (P := P) (t := t) (by rw [h]; simp)
  rw [he] at h ⊢
  cases d <;> try (cases h; done)
  exact ⟨hT.und, rfl, rfl⟩
theorem ti_arr {t : TypeId} (h : (tiOf P t).kind = .arr) : P.underlying t = some (.array (tiOf P t).len (tiOf P t).elem) ∧ P.cellsOf (tiOf P t).elem = (tiOf P t).esize ∧ P.bytesOf (tiOf P t).elem = (tiOf P t).ebytes := by
  obtain ⟨i, d, z, hT, he⟩ := tiOf_known (P := P) (t := t) (by rw [h]; simp)
  rw [he] at h ⊢
  cases d <;> try (cases h; done)
  exact ⟨hT.und, rfl, rfl⟩
theorem info_of_cells {e m : Nat} (h : P.cellsOf e = m) (hp : 0 < m) : ∃ i, P.info? e = some i ∧ i.size = m := by
  unfold Program.cellsOf at h
  cases hi : P.info? e with
  | none => simp [hi] at h; omega
  | some i => exact ⟨i, rfl, by simpa [hi] using h⟩
def intK (x : AV) (k : Int → Prop) : Prop := match x with | .d (.v (.int _ z)) => k z | _ => False
theorem intK_out {x : AV} {k : Int → Prop} (h : intK x k) : ∃ kd z, x = .d (.v (.int kd z)) ∧ k z := by
  unfold intK at h
  split at h
  · exact ⟨_, _, rfl, h⟩
  · exact h.elim
def indexAddrK (ti : TI) (x y : AV) (L : List AObj) (K : Eff → AV → Prop) : Prop :=
  intK y fun z => posK ti.esize <| match x with
  | .own i => match ti.kind with
    | .sli => getOK L i fun ob => match ob with
      | .sl s rows => eqK ti.esize s <| ∃ k : Nat, z = k ∧ k < rows.length ∧ K ⟨[i], [], []⟩ (.ep i s k 0)
      | _ => False
    | _ => False
  | .d (.sl s rows) => match ti.kind with
    | .sli => eqK ti.esize s <| ∃ (k : Nat) (r : List D), z = k ∧ rows[k]? = some r ∧ K e0 (.fp r)
    | _ => False
  | .ptr i o => match ti.kind with
    | .arr => ∃ k : Nat, z = k ∧ k < ti.len ∧ K e0 (.ptr i (o + k * ti.esize))
    | _ => False
  | .ep i sz m f => match ti.kind with
    | .arr => ∃ k : Nat, z = k ∧ k < ti.len ∧ K e0 (.ep i sz m (f + k * ti.esize))
    | _ => False
  | .fp xs => match ti.kind with
    | .arr => ∃ (k : Nat) (ys : List D), z = k ∧ k < ti.len ∧ xs.drop (k * ti.esize) = ys ∧ K e0 (.fp ys)
    | _ => False
  | _ => False
theorem run_indexAt_sl {t : TypeId} (hk : (tiOf P t).kind = .sli) (hp : 0 < (tiOf P t).esize) {A : Addr} {m c k : Nat} {kd : IntKind} (hlt : k < m) : (Instr.indexAt t (.slice (some A) m c) (.int kd k)).run P w = .ok (.pointer (some (A.add (k * (tiOf P t).esize)))) w := by
  obtain ⟨h1, h2, _⟩ := ti_sli hk
  obtain ⟨i, h3, h4⟩ := info_of_cells h2 hp
  simp [Instr.indexAt, asIntOf, run_underlying h1, sizeOf, typeInfo, h3, h4]
  exact fun e => absurd e (by omega)
theorem run_indexAt_arr {t : TypeId} (hk : (tiOf P t).kind = .arr) (hp : 0 < (tiOf P t).esize) {b o k : Nat} {kd : IntKind} (hlt : k < (tiOf P t).len) : (Instr.indexAt t (.pointer (some ⟨b, o, none⟩)) (.int kd k)).run P w = .ok (.pointer (some ⟨b, o + k * (tiOf P t).esize, none⟩)) w := by
  obtain ⟨h1, h2, _⟩ := ti_arr hk
  obtain ⟨i, h3, h4⟩ := info_of_cells h2 hp
  simp [Instr.indexAt, asIntOf, run_underlying h1, sizeOf, typeInfo, h3, h4, Instr.sureAddr, Addr.add_lit]
  exact fun e => absurd e (by omega)
theorem indexAddrK_out {t : TypeId} {x y : AV} {a b : Operand} {K : Eff → AV → Prop} (h : indexAddrK (tiOf P t) x y L K) : ∃ e r, K e r ∧ Does P (.indexAddr t a b) ty L n [x, y] e r := by
  obtain ⟨kd, z, hy, hh⟩ := intK_out h
  clear h
  subst hy
  obtain ⟨hp, h⟩ := posK_out hh
  clear hh
  have fin : ∀ {e : Eff} {r : AV}, e.ws = [] → e.news = [] → K e r → (∀ (H : Hp) (F : Nat → Prop) (ρ : Nat → Option Value) (w : World) (v : Value), Env F ρ H w → (∀ i ∈ e.rs, H i = L[i]?) → RA w F ρ x v → ∃ u, (Instr.indexAt t v (.int kd z)).run P w = .ok u w ∧ RA w F ρ r u) → ∃ e r, K e r ∧ Does P (.indexAddr t a b) ty L n [x, .d (.v (.int kd z))] e r := by
    intro e r h1 h2 h3 h4
    refine ⟨e, r, h3, fun op H F ρ w ev ho ht E hL hn hx => ?_⟩
    obtain ⟨v, u0, ev', hv, hu⟩ := hx.two_out
    have := hu.v_out
    subst this
    simp [Op.operands] at ev'
    obtain ⟨u, hu, hr⟩ := h4 H F ρ w v E hL hv
    have hrun : (execOp ev op).run P w = .ok (.value u) w := by simp [execOp, ho, ev'.1, ev'.2, hu]
    rw [hrun, h1, h2]
    exact Post.same E hr
  split at h
  · rename_i i
    split at h
    · rename_i hk
      obtain ⟨ob, hob, h⟩ := getOK_out h
      split at h
      · rename_i s rows
        obtain ⟨hs, k, rfl, hlt, hK⟩ := eqK_out h
        refine fin rfl rfl hK fun H F ρ w v E hL hv => ?_
        have hi : H i = some (.sl s rows) := by rw [hL i (by simp)]; exact hob
        cases hv with | own hv =>
          obtain ⟨hh, e1, ⟨vs, how, _⟩, _⟩ := E.rep i _ hi rfl
          rw [hv] at e1; injection e1 with e1; subst e1
          obtain ⟨g, off, cap, he, _⟩ := how.open_ (by omega)
          injection he with q1 q2 q3
          subst q1 q2
          refine ⟨_, run_indexAt_sl hk hp hlt, ?_⟩
          rw [Addr.add_lit, hs]
          exact .ep hv
      · exact h.elim
    · exact h.elim
  · split at h
    · rename_i s rows _ hk
      obtain ⟨hs, k, r, rfl, hr, hK⟩ := eqK_out h
      refine fin rfl rfl hK fun H F ρ w v E hL hv => ?_
      cases hv with | d hv => cases hv with | sl hn hs' h1 h2 hf hm =>
        have hlt := (List.getElem?_eq_some_iff.1 hr).1
        obtain ⟨b, off, rfl, hb, hc⟩ := hm (by omega)
        refine ⟨_, run_indexAt_sl hk hp (by omega), ?_⟩
        rw [Addr.add_lit, hs]
        have hd := hf.drop (k * s)
        rw [flat_get hs' hr] at hd
        obtain ⟨vs, ts, e, g1, g2⟩ := hd.split
        refine .fp hb g1 fun j hj => ?_
        rename_i cs
        have hu : cs[k * s + j]? = some vs[j] := by
          have : (cs.drop (k * s))[j]? = some vs[j] := by rw [e, List.getElem?_append_left hj, List.getElem?_eq_getElem hj]
          simpa [List.getElem?_drop] using this
        obtain ⟨q1, q2⟩ := List.getElem?_eq_some_iff.1 hu
        have := hc _ q1
        rw [q2] at this
        rw [Nat.add_assoc]; exact this
    · exact h.elim
  · split at h
    · rename_i hk
      obtain ⟨k, rfl, hlt, hK⟩ := h
      refine fin rfl rfl hK fun H F ρ w v E hL hv => ?_
      cases hv with | ptr hv => exact ⟨_, run_indexAt_arr hk hp hlt, .ptr hv⟩
    · exact h.elim
  · split at h
    · rename_i hk
      obtain ⟨k, rfl, hlt, hK⟩ := h
      refine fin rfl rfl hK fun H F ρ w v E hL hv => ?_
      cases hv with | ep hv => exact ⟨_, run_indexAt_arr hk hp hlt, by rw [Nat.add_assoc, Nat.add_assoc]; exact .ep hv⟩
    · exact h.elim
  · split at h
    · rename_i hk
      obtain ⟨k, ys, rfl, hlt, rfl, hK⟩ := h
      refine fin rfl rfl hK fun H F ρ w v E hL hv => ?_
      cases hv with | fp hb hr hc =>
        refine ⟨_, run_indexAt_arr hk hp hlt, .fp hb (hr.drop _) fun j hj => ?_⟩
        rw [List.getElem_drop, Nat.add_assoc]
        exact hc _ _
    · exact h.elim
  · exact h.elim
/-! ### elements of values -/
def oneTK (ti : TI) (p : Prop) : Prop := match ti.kind with | .one => p | .sli => p | _ => False
theorem oneTK_out {ti : TI} {p : Prop} (h : oneTK ti p) : (ti.kind = .one ∨ ti.kind = .sli) ∧ p := by
  unfold oneTK at h
  split at h
  · rename_i hk; exact ⟨.inl hk, h⟩
  · rename_i hk; exact ⟨.inr hk, h⟩
  · exact h.elim
def indexK (ti ei : TI) (x y : AV) (K : Eff → AV → Prop) : Prop :=
  intK y fun z => match x with
  | .d (.agg ds) => match ti.kind with
    | .arr => oneTK ei <| eqK ti.esize 1 <| ∃ (k : Nat) (r : D), z = k ∧ k < ti.len ∧ ds[k]? = some r ∧ K e0 (.d r)
    | _ => False
  | .d (.v (.string s)) => eqK ti.tag 3 <| ∃ (k : Nat) (h : k < s.size), z = k ∧ K e0 (.d (.v (.int .u8 (s[k].toNat : Int))))
  | _ => False
theorem ti_tag {t : TypeId} (h : (tiOf P t).tag = 3) : P.underlying t = some .string := by
  obtain ⟨i, d, z, hT, he⟩ := tiOf_known (P := P) (t := t) (fun e => by rw [ti_non e] at h; cases h)
  rw [he] at h
  cases d <;> first | exact hT.und | (cases h; done) | (rename_i k; cases k <;> cases h)
theorem indexK_out {t : TypeId} {x y : AV} {a b : Operand} {K : Eff → AV → Prop} (h : indexK (tiOf P t) (tiOf P (tiOf P t).elem) x y K) : ∃ e r, K e r ∧ Does P (.index t a b) ty L n [x, y] e r := by
  obtain ⟨kd, z, hy, hh⟩ := intK_out h
  clear h
  subst hy
  have h := hh
  clear hh
  have fin : ∀ {r : AV}, K e0 r → (∀ (w : World) (F : Nat → Prop) (ρ : Nat → Option Value) (v : Value), RA w F ρ x v → ∃ u, (Instr.index t v (.int kd z)).run P w = .ok u w ∧ RA w F ρ r u) → ∃ e r, K e r ∧ Does P (.index t a b) ty L n [x, .d (.v (.int kd z))] e r := by
    intro r h3 h4
    refine ⟨_, r, h3, does_val fun op w F ρ ev ho _ hx => ?_⟩
    obtain ⟨v, u0, ev', hv, hu⟩ := hx.two_out
    have := hu.v_out
    subst this
    simp [Op.operands] at ev'
    obtain ⟨u, hu, hr⟩ := h4 w F ρ v hv
    exact ⟨u, by simp [execOp, ho, ev'.1, ev'.2, hu], hr⟩
  split at h
  · split at h
    · rename_i ds _ hk
      obtain ⟨hone, h0⟩ := oneTK_out h
      obtain ⟨h1, k, r, rfl, hlt, hr, hK⟩ := eqK_out h0
      obtain ⟨g1, g2, _⟩ := ti_arr hk
      rw [h1] at g2
      obtain ⟨i, h3, h4⟩ := info_of_cells g2 (by omega)
      refine fin hK fun w F ρ v hv => ?_
      cases hv with | d hv => cases hv with | agg hv =>
        rename_i cs
        obtain ⟨u, hu, hru, _⟩ := hv.get hr
        refine ⟨u, ?_, .d hru⟩
        have hp : (part (tiOf P t).elem cs.toArray k).run P w = .ok u w := run_part (by rcases hone with e | e <;> rw [e] <;> simp) (fun _ => hu) (fun e => by rcases hone with e1 | e1 <;> rcases e with e | e <;> rw [e1] at e <;> cases e)
        simp [Instr.index, asIntOf, run_underlying g1, sizeOf, typeInfo, h3, h4, hp]
        exact fun e => absurd e (by omega)
    · exact h.elim
  · rename_i s _
    obtain ⟨h1, k, hlt, rfl, hK⟩ := eqK_out h
    refine fin hK fun w F ρ v hv => ?_
    have := hv.v_out
    subst this
    refine ⟨_, ?_, .d (.v _)⟩
    simp [Instr.index, asIntOf, run_underlying (ti_tag h1), hlt]
  · exact h.elim
/-! ### tuples, checks, lengths -/
def extractK (x : AV) (i : Nat) (K : Eff → AV → Prop) : Prop := match x with | .tup xs => getK xs i (K e0) | _ => False
theorem extractK_out {x : AV} {i : Nat} {a : Operand} {K : Eff → AV → Prop} (h : extractK x i K) : ∃ e r, K e r ∧ Does P (.extract a i) ty L n [x] e r := by
  unfold extractK at h
  split at h
  · obtain ⟨y, hy, hK⟩ := getK_out h
    refine ⟨_, _, hK, does_val fun op w F ρ ev ho _ hx => ?_⟩
    obtain ⟨v, e', hv⟩ := hx.one_out
    simp [Op.operands] at e'
    cases hv with | tup hv =>
      obtain ⟨u, hu, hr⟩ := hv.get hy
      exact ⟨u, by simp [execOp, ho, e', Instr.extract, hu], hr⟩
  · exact h.elim
def nilCheckK (x : AV) (K : Eff → AV → Prop) : Prop :=
  match x with
  | .ptr i o => K e0 (.ptr i o)
  | .ep i s m f => K e0 (.ep i s m f)
  | .fp xs => K e0 (.fp xs)
  | .fn (.func g) a b => K e0 (.fn (.func g) a b)
  | _ => False
theorem nilCheckK_out {x : AV} {a : Operand} {K : Eff → AV → Prop} (h : nilCheckK x K) : ∃ e r, K e r ∧ Does P (.nilCheck a) ty L n [x] e r := by
  have fin : ∀ {r : AV}, K e0 r → (∀ (w : World) (F : Nat → Prop) (ρ : Nat → Option Value) (v : Value), RA w F ρ r v → (∃ b, v = .pointer (some b)) ∨ ∃ g p q, v = .func (.func g) p q) → ∃ e r', K e r' ∧ Does P (.nilCheck a) ty L n [r] e r' := by
    intro r hK hr
    refine ⟨_, _, hK, does_val fun op w F ρ ev ho _ hx => ?_⟩
    obtain ⟨v, e', hv⟩ := hx.one_out
    simp [Op.operands] at e'
    refine ⟨v, ?_, hv⟩
    rcases hr w F ρ v hv with ⟨b, rfl⟩ | ⟨g, p, q, rfl⟩ <;> simp [execOp, ho, e']
  unfold nilCheckK at h
  split at h
  · exact fin h fun w F ρ v hv => by cases hv; exact .inl ⟨_, rfl⟩
  · exact fin h fun w F ρ v hv => by cases hv; exact .inl ⟨_, rfl⟩
  · exact fin h fun w F ρ v hv => by cases hv; exact .inl ⟨_, rfl⟩
  · exact fin h fun w F ρ v hv => by cases hv; exact .inr ⟨_, _, _, rfl⟩
  · exact h.elim
def lenBK (ti : TI) (x : AV) (L : List AObj) (K : Eff → AV → Prop) : Prop :=
  match x with
  | .own i => match ti.kind with
    | .sli => getOK L i fun ob => match ob with
      | .sl _ rows => K ⟨[i], [], []⟩ (.d (.v (.int .i64 rows.length)))
      | _ => False
    | _ => False
  | .d (.sl _ rows) => match ti.kind with
    | .sli => K e0 (.d (.v (.int .i64 rows.length)))
    | _ => False
  | .d (.v (.slice _ m _)) => match ti.kind with
    | .sli => K e0 (.d (.v (.int .i64 m)))
    | _ => False
  | .d (.v (.string s)) => eqK ti.tag 3 <| K e0 (.d (.v (.int .i64 s.size)))
  | _ => False
theorem lenBK_out {t : TypeId} {x : AV} {a : Operand} {K : Eff → AV → Prop} (h : lenBK (tiOf P t) x L K) : ∃ e r, K e r ∧ Does P (.call { callee := .builtin .len, args := #[a], argTypes := #[t] }) ty L n [x] e r := by
  have fin : ∀ {e : Eff} {m : Nat}, e.ws = [] → e.news = [] → K e (.d (.v (.int .i64 m))) → (∀ (H : Hp) (F : Nat → Prop) (ρ : Nat → Option Value) (w : World) (v : Value), Env F ρ H w → (∀ i ∈ e.rs, H i = L[i]?) → RA w F ρ x v → ((tiOf P t).kind = .sli ∧ ∃ A c, v = .slice A m c) ∨ ((tiOf P t).tag = 3 ∧ ∃ s, v = .string s ∧ s.size = m)) → ∃ e r, K e r ∧ Does P (.call { callee := .builtin .len, args := #[a], argTypes := #[t] }) ty L n [x] e r := by
    intro e m h1 h2 h3 h4
    refine ⟨e, _, h3, fun op H F ρ w ev ho ht E hL hn hx => ?_⟩
    have hops : (Op.operands (.call { callee := .builtin .len, args := #[a], argTypes := #[t] })).toList = [a] := by simp [Op.operands, Call.operands]
    rw [hops] at hx
    obtain ⟨v, ev', hv⟩ := hx.one_out
    simp at ev'
    have hrun : (execOp ev op).run P w = .ok (.value (.int .i64 m)) w := by
      rcases h4 H F ρ w v E hL hv with ⟨hk, A, c, rfl⟩ | ⟨hk, s, rfl, rfl⟩
      · simp [execOp, ho, resolve, invoke, builtin, ev', Builtin.len_, run_underlying (ti_sli hk).1, goInt]
      · simp [execOp, ho, resolve, invoke, builtin, ev', Builtin.len_, run_underlying (ti_tag hk), goInt]
    rw [hrun, h1, h2]
    exact Post.same E (.d (.v _))
  unfold lenBK at h
  split at h
  · rename_i i
    split at h
    · rename_i hk
      obtain ⟨ob, hob, h⟩ := getOK_out h
      split at h
      · rename_i s rows
        refine fin rfl rfl h fun H F ρ w v E hL hv => ?_
        have hi : H i = some (.sl s rows) := by rw [hL i (by simp)]; exact hob
        cases hv with | own hv =>
          obtain ⟨hh, e1, ⟨vs, how, _⟩, _⟩ := E.rep i _ hi rfl
          rw [hv] at e1; injection e1 with e1; subst e1
          obtain ⟨A', c', he, _⟩ := how.form
          injection he with q1 q2 q3
          exact .inl ⟨hk, _, _, by rw [q2]⟩
      · exact h.elim
    · exact h.elim
  · split at h
    · rename_i hk
      refine fin rfl rfl h fun H F ρ w v E hL hv => ?_
      cases hv with | d hv => cases hv with | sl hn _ _ _ _ _ => exact .inl ⟨hk, _, _, by rw [hn]⟩
    · exact h.elim
  · split at h
    · rename_i hk
      refine fin rfl rfl h fun H F ρ w v E hL hv => ?_
      have := hv.v_out
      exact .inl ⟨hk, _, _, this⟩
    · exact h.elim
  · obtain ⟨hk, h⟩ := eqK_out h
    refine fin rfl rfl h fun H F ρ w v E hL hv => ?_
    have := hv.v_out
    exact .inr ⟨hk, _, this, rfl⟩
  · exact h.elim
end
end Go.Proofs.YtpnbpcdmiiakcaaDoor
/- Contracts, and how they are called from elsewhere. No program is named here. -/
namespace Go.Proofs.YtpnbpcdmiiakcaaDoor
set_option linter.unusedSimpArgs false
set_option linter.unusedVariables false
open Go.RowKit
/-- The contract of a function: of such arguments, over such objects, comes this, and these objects. -/
def Sat (P : Program) (g : FuncId) (args : List AV) (H : List AObj) (r : AV) (H' : List AObj) : Prop :=
  ∀ (F : Nat → Prop) (ρ : Nat → Option Value) (w : World) (vals : List Value), Env F ρ (hp H) w → RAs w F ρ args vals →
    Calls P g vals.toArray w fun e w' => ∃ v, e = .returned v ∧ Post F ρ (hp H) w (hp H') r v w'
/-- What a call does, among other objects. -/
def CallOK (P : Program) (g : FuncId) (args : List AV) (L : List AObj) (n : Nat) (e : Eff) (r : AV) : Prop :=
  ∀ (H : Hp) (F : Nat → Prop) (ρ : Nat → Option Value) (w : World) (vals : List Value), Env F ρ H w → (∀ i ∈ e.rs, H i = L[i]?) → (∀ k, k < e.news.length → H (n + k) = none) → RAs w F ρ args vals →
    Calls P g vals.toArray w fun en w' => ∃ v, en = .returned v ∧ Post F ρ H w (appN n e.news (appW e.ws H)) r v w'
/-! ### other names for objects -/
mutual
def AV.rn (f : Nat → Nat) : AV → AV
  | .d x => .d x
  | .ptr i o => .ptr (f i) o
  | .own i => .own (f i)
  | .ep i s m g => .ep (f i) s m g
  | .fp xs => .fp xs
  | .agg xs => .agg (AV.rns f xs)
  | .tup xs => .tup (AV.rns f xs)
  | .fn g a b => .fn g (AV.rns f a) (AV.rns f b)
  | .mp i => .mp (f i)
  | .rel i p => .rel (f i) p
  | .any => .any
def AV.rns (f : Nat → Nat) : List AV → List AV
  | [] => []
  | x :: r => AV.rn f x :: AV.rns f r
end
mutual
def AV.lt (m : Nat) : AV → Bool
  | .d _ => true
  | .ptr i _ => Nat.blt i m
  | .own i => Nat.blt i m
  | .ep i _ _ _ => Nat.blt i m
  | .fp _ => true
  | .agg xs => AV.lts m xs
  | .tup xs => AV.lts m xs
  | .fn _ a b => AV.lts m a && AV.lts m b
  | .mp i => Nat.blt i m
  | .rel i _ => Nat.blt i m
  | .any => true
def AV.lts (m : Nat) : List AV → Bool
  | [] => true
  | x :: r => AV.lt m x && AV.lts m r
end
def AObj.rn (f : Nat → Nat) : AObj → AObj
  | .dead => .dead
  | .cells cs => .cells (AV.rns f cs)
  | .row xs => .row xs
  | .sl s rows => .sl s rows
  | .obj p => .obj p
  | .iter x p => .iter (x.rn f) p
def AObj.rns (f : Nat → Nat) : List AObj → List AObj
  | [] => []
  | x :: r => x.rn f :: AObj.rns f r
def AObj.lts (m : Nat) : List AObj → Bool
  | [] => true
  | .cells cs :: r => AV.lts m cs && AObj.lts m r
  | .dead :: r => AObj.lts m r
  | .row _ :: r => AObj.lts m r
  | .sl _ _ :: r => AObj.lts m r
  | .obj _ :: r => AObj.lts m r
  | .iter x _ :: r => AV.lt m x && AObj.lts m r
theorem AObj.rns_get {f : Nat → Nat} : ∀ {l : List AObj} {i : Nat}, (AObj.rns f l)[i]? = (l[i]?).map (AObj.rn f)
  | [], i => by simp [AObj.rns]
  | x :: r, 0 => by simp [AObj.rns]
  | x :: r, i + 1 => by simp [AObj.rns, AObj.rns_get (l := r)]
theorem AObj.rns_length {f : Nat → Nat} : ∀ {l : List AObj}, (AObj.rns f l).length = l.length
  | [] => rfl
  | x :: r => by simp [AObj.rns, AObj.rns_length (l := r)]
theorem AObj.rn_live {f : Nat → Nat} {o : AObj} : (o.rn f).live = o.live := by cases o <;> rfl
theorem AObj.lts_get {m : Nat} : ∀ {l : List AObj}, AObj.lts m l = true → ∀ {i : Nat} {cs : List AV}, l[i]? = some (.cells cs) → AV.lts m cs = true
  | [], _, i, cs, h => by simp at h
  | .cells c :: r, hl, 0, cs, h => by simp [AObj.lts] at hl h; subst h; exact hl.1
  | .dead :: r, hl, 0, cs, h => by simp at h
  | .row _ :: r, hl, 0, cs, h => by simp at h
  | .sl _ _ :: r, hl, 0, cs, h => by simp at h
  | .obj _ :: r, hl, 0, cs, h => by simp at h
  | .iter _ _ :: r, hl, 0, cs, h => by simp at h
  | .cells c :: r, hl, i + 1, cs, h => AObj.lts_get (l := r) (by simp [AObj.lts] at hl; exact hl.2) (i := i) (by simpa using h)
  | .dead :: r, hl, i + 1, cs, h => AObj.lts_get (l := r) (by simpa [AObj.lts] using hl) (i := i) (by simpa using h)
  | .row _ :: r, hl, i + 1, cs, h => AObj.lts_get (l := r) (by simpa [AObj.lts] using hl) (i := i) (by simpa using h)
  | .sl _ _ :: r, hl, i + 1, cs, h => AObj.lts_get (l := r) (by simpa [AObj.lts] using hl) (i := i) (by simpa using h)
  | .obj _ :: r, hl, i + 1, cs, h => AObj.lts_get (l := r) (by simpa [AObj.lts] using hl) (i := i) (by simpa using h)
  | .iter _ _ :: r, hl, i + 1, cs, h => AObj.lts_get (l := r) (by simp [AObj.lts] at hl; exact hl.2) (i := i) (by simpa using h)
theorem AObj.lts_one {m : Nat} : ∀ {l : List AObj}, AObj.lts m l = true → ∀ {i : Nat} {o : AObj}, l[i]? = some o → AObj.lts m [o] = true
  | [], _, i, o, h => by simp at h
  | x :: r, hl, 0, o, h => by simp at h; subst h; cases x <;> first | rfl | (simp [AObj.lts] at hl ⊢; exact hl.1)
  | x :: r, hl, i + 1, o, h => AObj.lts_one (l := r) (by cases x <;> first | (simpa [AObj.lts] using hl) | (simp [AObj.lts] at hl; exact hl.2)) (i := i) (by simpa using h)
section
variable {P : Program} {w w' : World} {F F' : Nat → Prop} {ρ ρ' ρ0 : Nat → Option Value} {H : Hp} {L : List AObj} {n : Nat}
mutual
theorem RA.rn {f : Nat → Nat} (hf : ∀ j h, ρ0 j = some h → ρ (f j) = some h) : ∀ {x : AV} {v : Value}, RA w F ρ0 x v → RA w F ρ (x.rn f) v
  | _, _, .d h => by rw [AV.rn]; exact .d h
  | _, _, .ptr h => by rw [AV.rn]; exact .ptr (hf _ _ h)
  | _, _, .own h => by rw [AV.rn]; exact .own (hf _ _ h)
  | _, _, .ep h => by rw [AV.rn]; exact .ep (hf _ _ h)
  | _, _, .fp hb h hc => by rw [AV.rn]; exact .fp hb h hc
  | _, _, .agg h h1 => by rw [AV.rn]; exact .agg (RAs.rn hf h) h1
  | _, _, .tup h => by rw [AV.rn]; exact .tup (RAs.rn hf h)
  | _, _, .fn h h' => by rw [AV.rn]; exact .fn (RAs.rn hf h) (RAs.rn hf h')
  | _, _, .mp h => by rw [AV.rn]; exact .mp (hf _ _ h)
  | _, _, .rel h hp => by rw [AV.rn]; exact .rel (hf _ _ h) hp
  | _, _, .any v => by rw [AV.rn]; exact .any v
theorem RAs.rn {f : Nat → Nat} (hf : ∀ j h, ρ0 j = some h → ρ (f j) = some h) : ∀ {xs : List AV} {vs : List Value}, RAs w F ρ0 xs vs → RAs w F ρ (AV.rns f xs) vs
  | _, _, .nil => by rw [AV.rns]; exact .nil
  | _, _, .cons h hr => by rw [AV.rns]; exact .cons (RA.rn hf h) (RAs.rn hf hr)
end
mutual
theorem RA.rn_inv {f : Nat → Nat} {m : Nat} (hf : ∀ j, j < m → ρ0 j = ρ (f j)) : ∀ (x : AV) {v : Value}, AV.lt m x = true → RA w F ρ (x.rn f) v → RA w F ρ0 x v
  | .d x, v, _, h => by rw [AV.rn] at h; cases h with | d h => exact .d h
  | .ptr i o, v, l, h => by rw [AV.rn] at h; cases h with | ptr h => exact .ptr ((hf _ (by simpa [AV.lt, Nat.blt, Nat.succ_le_iff] using l)).trans h)
  | .own i, v, l, h => by rw [AV.rn] at h; cases h with | own h => exact .own ((hf _ (by simpa [AV.lt, Nat.blt, Nat.succ_le_iff] using l)).trans h)
  | .ep i s q g, v, l, h => by rw [AV.rn] at h; cases h with | ep h => exact .ep ((hf _ (by simpa [AV.lt, Nat.blt, Nat.succ_le_iff] using l)).trans h)
  | .fp xs, v, _, h => by rw [AV.rn] at h; cases h with | fp hb h hc => exact .fp hb h hc
  | .agg xs, v, l, h => by rw [AV.rn] at h; cases h with | agg h h1 => exact .agg (RAs.rn_inv hf xs (by simpa [AV.lt] using l) h) h1
  | .tup xs, v, l, h => by rw [AV.rn] at h; cases h with | tup h => exact .tup (RAs.rn_inv hf xs (by simpa [AV.lt] using l) h)
  | .fn g a b, v, l, h => by rw [AV.rn] at h; simp [AV.lt] at l; cases h with | fn h h' => exact .fn (RAs.rn_inv hf a l.1 h) (RAs.rn_inv hf b l.2 h')
  | .mp i, v, l, h => by rw [AV.rn] at h; cases h with | mp h => exact .mp ((hf _ (by simpa [AV.lt, Nat.blt, Nat.succ_le_iff] using l)).trans h)
  | .rel i p, v, l, h => by rw [AV.rn] at h; cases h with | rel h hp => exact .rel ((hf _ (by simpa [AV.lt, Nat.blt, Nat.succ_le_iff] using l)).trans h) hp
  | .any, v, _, _ => .any v
theorem RAs.rn_inv {f : Nat → Nat} {m : Nat} (hf : ∀ j, j < m → ρ0 j = ρ (f j)) : ∀ (xs : List AV) {vs : List Value}, AV.lts m xs = true → RAs w F ρ (AV.rns f xs) vs → RAs w F ρ0 xs vs
  | [], vs, _, h => by rw [AV.rns] at h; cases h; exact .nil
  | x :: r, vs, l, h => by rw [AV.rns] at h; simp [AV.lts] at l; cases h with | cons h hr => exact .cons (RA.rn_inv hf x l.1 h) (RAs.rn_inv hf r l.2 hr)
end
theorem ORep.rn {f : Nat → Nat} (hf : ∀ j h, ρ0 j = some h → ρ (f j) = some h) {h : Value} {o : AObj} (hr : ORep w F ρ0 h o) : ORep w F ρ h (o.rn f) := by
  cases o with
  | cells cs => obtain ⟨b, t, vs, e, hB, hra, h1⟩ := hr; exact ⟨b, t, vs, e, hB, hra.rn hf, h1⟩
  | iter x p => obtain ⟨b, o, v, e, ho, hx, hp⟩ := hr; exact ⟨b, o, v, e, ho, hx.rn hf, hp⟩
  | _ => exact hr
theorem ORep.rn_inv {f : Nat → Nat} {m : Nat} (hf : ∀ j, j < m → ρ0 j = ρ (f j)) {h : Value} {o : AObj} (hl : AObj.lts m [o] = true) (hr : ORep w F ρ h (o.rn f)) : ORep w F ρ0 h o := by
  cases o with
  | cells cs => obtain ⟨b, t, vs, e, hB, hra, h1⟩ := hr; exact ⟨b, t, vs, e, hB, hra.rn_inv hf _ (by simpa [AObj.lts] using hl), h1⟩
  | iter x p => obtain ⟨b, o, v, e, ho, hx, hp⟩ := hr; exact ⟨b, o, v, e, ho, hx.rn_inv hf _ (by simpa [AObj.lts] using hl), hp⟩
  | _ => exact hr
/-- The caller's names for a callee's objects: those that were handed in, then new ones. -/
def sub : List Nat → Nat → Nat → Nat
  | [], n, j => n + j
  | a :: _, _, 0 => a
  | _ :: r, n, j + 1 => sub r n j
theorem sub_lt : ∀ {σ : List Nat} {n j : Nat} (h : j < σ.length), sub σ n j = σ[j]
  | [], _, _, h => by simp at h
  | a :: r, n, 0, _ => rfl
  | a :: r, n, j + 1, h => by simpa [sub] using sub_lt (σ := r) (n := n) (j := j) (by simpa using h)
theorem sub_ge : ∀ {σ : List Nat} {n j : Nat} (_ : σ.length ≤ j), sub σ n j = n + (j - σ.length)
  | [], n, j, _ => by simp [sub]
  | a :: r, n, 0, h => by simp at h
  | a :: r, n, j + 1, h => by simp [sub]; rw [sub_ge (σ := r) (by simpa using h)]
def zipW : List Nat → List AObj → List (Nat × AObj)
  | a :: r, o :: s => (a, o) :: zipW r s
  | _, _ => []
theorem appW_out : ∀ {ws : List (Nat × AObj)} {H : Hp} {k : Nat}, (∀ x ∈ ws, x.1 ≠ k) → appW ws H k = H k
  | [], H, k, _ => rfl
  | (i, o) :: r, H, k, h => by
    rw [appW, appW_out (fun x hx => h x (List.mem_cons_of_mem _ hx)), updF_ne _ _ (fun e => h (i, o) (List.mem_cons_self ..) e.symm)]
theorem appN_out : ∀ {l : List AObj} {n : Nat} {H : Hp} {k : Nat}, (k < n ∨ n + l.length ≤ k) → appN n l H k = H k
  | [], n, H, k, _ => rfl
  | o :: r, n, H, k, h => by
    simp at h
    rw [appN, appN_out (by omega), updF_ne _ _ (by omega)]
theorem appN_in : ∀ {l : List AObj} {n : Nat} {H : Hp} {k : Nat}, k < l.length → appN n l H (n + k) = l[k]?
  | [], n, H, k, h => by simp at h
  | o :: r, n, H, 0, _ => by rw [Nat.add_zero, appN, appN_out (by omega), updF_same]; rfl
  | o :: r, n, H, k + 1, h => by
    rw [appN, show n + (k + 1) = (n + 1) + k by omega, appN_in (l := r) (by simpa using h)]; simp
theorem zipW_mem : ∀ {σ : List Nat} {os : List AObj} {x : Nat × AObj}, x ∈ zipW σ os → x.1 ∈ σ
  | [], _, x, h => by simp [zipW] at h
  | _ :: _, [], x, h => by simp [zipW] at h
  | a :: r, o :: s, x, h => by
    simp [zipW] at h
    rcases h with rfl | h
    · simp
    · exact List.mem_cons_of_mem _ (zipW_mem h)
theorem appW_zip : ∀ {σ : List Nat} {os : List AObj} {H : Hp} {j : Nat} (h : j < σ.length), σ.Nodup → os.length = σ.length → appW (zipW σ os) H σ[j] = os[j]?
  | [], _, _, _, h, _, _ => by simp at h
  | a :: r, [], _, _, _, _, h => by simp at h
  | a :: r, o :: s, H, 0, _, hd, _ => by
    rw [zipW, appW, appW_out (fun x hx e => (List.nodup_cons.1 hd).1 (by have := zipW_mem hx; rw [e] at this; simpa using this))]
    simp [updF_same]
  | a :: r, o :: s, H, j + 1, h, hd, hl => by
    rw [zipW, appW]
    simp only [List.getElem_cons_succ, List.getElem?_cons_succ]
    exact appW_zip (by simpa using h) (List.nodup_cons.1 hd).2 (by simpa using hl)
def AObj.lives : List AObj → Bool
  | [] => true
  | o :: r => o.live && AObj.lives r
theorem AObj.lives_get : ∀ {l : List AObj}, AObj.lives l = true → ∀ {i : Nat} {o : AObj}, l[i]? = some o → o.live = true
  | [], _, _, _, h => by simp at h
  | x :: r, hl, 0, o, h => by simp [AObj.lives] at hl h; subst h; exact hl.1
  | x :: r, hl, i + 1, o, h => by simp [AObj.lives] at hl; exact AObj.lives_get hl.2 (i := i) (by simpa using h)
/-- **A contract, among other objects.** -/
theorem Sat.at_ {g : FuncId} {args : List AV} {H0 H0' : List AObj} {r : AV} (h : Sat P g args H0 r H0') (σ : List Nat) (L : List AObj) (n : Nat)
    (hl : Nat.beq σ.length H0.length = true) (hd : σ.Nodup) (hle : Nat.ble H0.length H0'.length = true) (hlive : AObj.lives H0 = true) (hids : (AV.lts σ.length args && AObj.lts σ.length H0) = true)
    (hL : ∀ j (_ : j < σ.length), L[σ[j]]? = (AObj.rns (sub σ n) H0)[j]?) :
    CallOK P g (AV.rns (sub σ n) args) L n ⟨σ, zipW σ (AObj.rns (sub σ n) (H0'.take σ.length)), AObj.rns (sub σ n) (H0'.drop σ.length)⟩ (r.rn (sub σ n)) := by
  have hl := Nat.eq_of_beq_eq_true hl
  have hle := Nat.le_of_ble_eq_true hle
  simp only [Bool.and_eq_true] at hids
  intro H F ρ w vals E hrs hn hv
  have hnl : (AObj.rns (sub σ n) (H0'.drop σ.length)).length = H0'.length - σ.length := by rw [AObj.rns_length]; simp
  simp only [hnl] at hn
  generalize hρ0 : (fun j => if j < σ.length then ρ (sub σ n j) else none : Nat → Option Value) = ρ0
  have hf : ∀ j, j < σ.length → ρ0 j = ρ (sub σ n j) := fun j hj => by rw [← hρ0]; simp [hj]
  have hH : ∀ j o, H0[j]? = some o → ∃ hj : j < σ.length, H σ[j] = some (o.rn (sub σ n)) := by
    intro j o ho
    have hj : j < σ.length := by rw [hl]; exact (List.getElem?_eq_some_iff.1 ho).1
    refine ⟨hj, ?_⟩
    rw [hrs σ[j] (List.getElem_mem _), hL j hj, AObj.rns_get, ho]; rfl
  have hσn : ∀ (j : Nat) (hj : j < σ.length) (k : Nat), k < H0'.length - σ.length → σ[j] ≠ n + k := by
    intro j hj k hk e
    have h1 := hn k hk
    obtain ⟨_, h2⟩ := hH j H0[j] (by rw [List.getElem?_eq_getElem (by omega)])
    rw [e, h1] at h2; cases h2
  have inj : ∀ (i j : Nat) (hi : i < σ.length) (hj : j < σ.length), σ[i] = σ[j] → i = j := fun i j hi hj e => (List.getElem_inj hd).1 e
  have E0 : Env F ρ0 (hp H0) w := by
    refine ⟨E.fb, fun j hj => ?_, fun j o hj hlv => ?_, fun i j o o' hh hh' b e1 e2 l1 l2 r1 r2 b1 b2 => ?_⟩
    · rw [← hρ0]
      have : H0.length ≤ j := List.getElem?_eq_none_iff.1 hj
      simp; omega
    · obtain ⟨hjl, e⟩ := hH j o hj
      obtain ⟨hh, q1, q2, q3⟩ := E.rep _ _ e (by rw [AObj.rn_live]; exact hlv)
      exact ⟨hh, by rw [hf j hjl, sub_lt hjl]; exact q1, q2.rn_inv hf (AObj.lts_one hids.2 hj), q3⟩
    · obtain ⟨h1, q1⟩ := hH i o e1
      obtain ⟨h2, q2⟩ := hH j o' e2
      rw [hf i h1, sub_lt h1] at r1
      rw [hf j h2, sub_lt h2] at r2
      exact inj i j h1 h2 (E.inj _ _ _ _ hh hh' b q1 q2 (by rw [AObj.rn_live]; exact l1) (by rw [AObj.rn_live]; exact l2) r1 r2 b1 b2)
  have hlv0 : ∀ b, Lv ρ0 (hp H0) b → ∃ (j : Nat) (hj : j < σ.length) (o : AObj) (hh : Value), H σ[j] = some o ∧ o.live = true ∧ ρ σ[j] = some hh ∧ blkOf hh = some b := by
    rintro b ⟨j, o, hh, e1, e2, e3, e4⟩
    obtain ⟨h1, q1⟩ := hH j o e1
    rw [hf j h1, sub_lt h1] at e3
    exact ⟨j, h1, _, hh, q1, by rw [AObj.rn_live]; exact e2, e3, e4⟩
  have hlv1 : ∀ b, Lv ρ0 (hp H0) b → Lv ρ H b := fun b hb => by
    obtain ⟨j, hj, o, hh, q1, q2, q3, q4⟩ := hlv0 b hb
    exact ⟨_, o, hh, q1, q2, q3, q4⟩
  refine (h F ρ0 w vals E0 (hv.rn_inv hf _ hids.1)).mono ?_
  rintro en w' ⟨v, rfl, F', ρ1, S1, K1, E1, R1⟩
  refine ⟨v, rfl, F', fun k => if n ≤ k ∧ k < n + (H0'.length - σ.length) then ρ1 (σ.length + (k - n)) else ρ k, ?_⟩
  generalize hρ' : (fun k => if n ≤ k ∧ k < n + (H0'.length - σ.length) then ρ1 (σ.length + (k - n)) else ρ k : Nat → Option Value) = ρ'
  generalize hH' : appN n (AObj.rns (sub σ n) (H0'.drop σ.length)) (appW (zipW σ (AObj.rns (sub σ n) (H0'.take σ.length))) H) = H'
  -- the new heap, place by place
  have vNew : ∀ k, k < H0'.length - σ.length → H' (n + k) = (H0'[σ.length + k]?).map (AObj.rn (sub σ n)) := by
    intro k hk
    rw [← hH', appN_in (by rw [hnl]; exact hk), AObj.rns_get, List.getElem?_drop]
  have vOld : ∀ (j : Nat) (hj : j < σ.length), H' σ[j] = (H0'[j]?).map (AObj.rn (sub σ n)) := by
    intro j hj
    rw [← hH', appN_out (by
      rw [hnl]
      rcases Nat.lt_or_ge σ[j] n with q | q
      · exact .inl q
      · rcases Nat.lt_or_ge σ[j] (n + (H0'.length - σ.length)) with q2 | q2
        · exact absurd (show σ[j] = n + (σ[j] - n) by omega) (hσn j hj _ (by omega))
        · exact .inr q2), appW_zip hj hd (by rw [AObj.rns_length]; simp; omega), AObj.rns_get, List.getElem?_take_of_lt hj]
  have vFar : ∀ k, ¬ (n ≤ k ∧ k < n + (H0'.length - σ.length)) → k ∉ σ → H' k = H k := by
    intro k h1 h2
    rw [← hH', appN_out (by rw [hnl]; omega), appW_out (fun x hx e => h2 (by rw [← e]; exact zipW_mem hx))]
  have rNew : ∀ k, k < H0'.length - σ.length → ρ' (n + k) = ρ1 (σ.length + k) := by
    intro k hk
    rw [← hρ']
    simp only
    rw [if_pos ⟨by omega, by omega⟩, Nat.add_sub_cancel_left]
  have rFar : ∀ k, ¬ (n ≤ k ∧ k < n + (H0'.length - σ.length)) → ρ' k = ρ k := by
    intro k h1
    rw [← hρ']
    simp only
    rw [if_neg h1]
  have rOld : ∀ (j : Nat) (hj : j < σ.length), ρ' σ[j] = ρ1 j := by
    intro j hj
    have hc : ¬ (n ≤ σ[j] ∧ σ[j] < n + (H0'.length - σ.length)) := fun q => hσn j hj (σ[j] - n) (by omega) (by omega)
    rw [rFar _ hc]
    obtain ⟨_, q⟩ := hH j H0[j] (by rw [List.getElem?_eq_getElem (by omega)])
    obtain ⟨hh, q1, _, _⟩ := E.rep _ _ q (by rw [AObj.rn_live]; exact AObj.lives_get hlive (i := j) (by rw [List.getElem?_eq_getElem (by omega)]))
    rw [q1]
    exact (K1 j hh (by rw [hf j hj, sub_lt hj]; exact q1)).symm
  have hf' : ∀ j hh, ρ1 j = some hh → ρ' (sub σ n j) = some hh := by
    intro j hh q
    rcases Nat.lt_or_ge j σ.length with hj | hj
    · rw [sub_lt hj, rOld j hj]; exact q
    · have hlt : j < H0'.length := by
        rcases Nat.lt_or_ge j H0'.length with q2 | q2
        · exact q2
        · rw [E1.abs j (List.getElem?_eq_none_iff.2 q2)] at q; cases q
      rw [sub_ge hj, rNew _ (by omega), show σ.length + (j - σ.length) = j by omega]; exact q
  -- an object of the new heap is the callee's, or the caller's own as it was
  have parts : ∀ k o, H' k = some o → (∃ j o0, H0'[j]? = some o0 ∧ o = o0.rn (sub σ n) ∧ k = sub σ n j ∧ ρ' k = ρ1 j) ∨ (¬ (n ≤ k ∧ k < n + (H0'.length - σ.length)) ∧ k ∉ σ ∧ H k = some o ∧ ρ' k = ρ k) := by
    intro k o hk
    by_cases h1 : n ≤ k ∧ k < n + (H0'.length - σ.length)
    · left
      have e : k = n + (k - n) := by omega
      rw [e, vNew (k - n) (by omega)] at hk
      obtain ⟨o0, q1, q2⟩ := Option.map_eq_some_iff.1 hk
      exact ⟨_, o0, q1, q2.symm, by rw [sub_ge (by omega)]; omega, by rw [e, rNew _ (by omega), Nat.add_sub_cancel_left]⟩
    · by_cases h2 : k ∈ σ
      · left
        obtain ⟨j, hj, rfl⟩ := List.getElem_of_mem h2
        rw [vOld j hj] at hk
        obtain ⟨o0, q1, q2⟩ := Option.map_eq_some_iff.1 hk
        exact ⟨j, o0, q1, q2.symm, (sub_lt hj).symm, rOld j hj⟩
      · exact .inr ⟨h1, h2, by rw [← vFar k h1 h2]; exact hk, rFar k h1⟩
  have hlv2 : ∀ b, Lv ρ' H' b → w.heap.size ≤ b ∨ Lv ρ H b := by
    rintro b ⟨k, o, hh, e1, e2, e3, e4⟩
    rcases parts k o e1 with ⟨j, o0, q1, rfl, q3, q4⟩ | ⟨_, _, q3, q4⟩
    · rw [AObj.rn_live] at e2
      rw [q4] at e3
      exact (S1.lsrc b ⟨j, o0, hh, q1, e2, e3, e4⟩).elim .inl fun q => .inr (hlv1 b q)
    · rw [q4] at e3
      exact .inr ⟨k, o, hh, q3, e2, e3, e4⟩
  have Kp : Keep ρ ρ' := by
    intro k hh hk
    by_cases h1 : n ≤ k ∧ k < n + (H0'.length - σ.length)
    · have := E.abs k (by have := hn (k - n) (by omega); rwa [show n + (k - n) = k by omega] at this)
      rw [this] at hk; cases hk
    · rw [rFar k h1]; exact hk
  have own : ∀ k o hh b, ¬ (k ∈ σ) → H k = some o → o.live = true → ρ k = some hh → blkOf hh = some b → b < w.heap.size ∧ ¬ F b ∧ ¬ Lv ρ0 (hp H0) b := by
    intro k o hh b h1 h2 h3 h4 h5
    obtain ⟨h0, q1, q2, q3⟩ := E.rep k o h2 h3
    rw [h4] at q1; injection q1 with q1; subst q1
    refine ⟨(q3 b h5).1, (q3 b h5).2, fun q => ?_⟩
    obtain ⟨j, hj, o2, h6, g1, g2, g3, g4⟩ := hlv0 b q
    exact h1 (E.inj k σ[j] o o2 hh h6 b h2 g1 h3 g2 h4 g3 h5 g4 ▸ List.getElem_mem _)
  refine ⟨⟨S1.os, S1.tape, S1.output, S1.size, fun b hb hnl => S1.unch b hb fun q => hnl (hlv1 b q), S1.fsub, fun b hb => (S1.fsrc b hb).elim .inl fun q => .inr (q.elim .inl fun q => .inr (hlv1 b q)), hlv2⟩, Kp, ⟨E1.fb, fun k hk => ?_, fun k o hk hlv => ?_, fun i j o o' hi hj b e1 e2 l1 l2 r1 r2 b1 b2 => ?_⟩, R1.rn hf'⟩
  · by_cases h1 : n ≤ k ∧ k < n + (H0'.length - σ.length)
    · have e : k = n + (k - n) := by omega
      rw [e, vNew (k - n) (by omega)] at hk
      simp at hk
      omega
    · by_cases h2 : k ∈ σ
      · obtain ⟨j, hj, rfl⟩ := List.getElem_of_mem h2
        rw [vOld j hj] at hk
        simp at hk
        omega
      · rw [rFar k h1]; exact E.abs k (by rw [← vFar k h1 h2]; exact hk)
  · rcases parts k o hk with ⟨j, o0, q1, rfl, q3, q4⟩ | ⟨_, q2, q3, q4⟩
    · rw [AObj.rn_live] at hlv
      obtain ⟨hh, g1, g2, g3⟩ := E1.rep j o0 q1 hlv
      exact ⟨hh, by rw [q4]; exact g1, g2.rn hf', g3⟩
    · obtain ⟨hh, g1, g2, g3⟩ := E.rep k o q3 hlv
      have hown : ∀ b, blkOf hh = some b → b < w.heap.size ∧ ¬ F b ∧ ¬ Lv ρ0 (hp H0) b := fun b hb => own k o hh b q2 q3 hlv g1 hb
      refine ⟨hh, by rw [q4]; exact g1, g2.mono S1.size (fun b hb hlt => S1.unch b hlt (hown b hb).2.2) (S1.keepF E0) S1.fsub Kp, fun b hb => ⟨Nat.lt_of_lt_of_le (hown b hb).1 S1.size, fun q => ?_⟩⟩
      rcases S1.fsrc b q with q | q | q
      · exact (hown b hb).2.1 q
      · have := (hown b hb).1; omega
      · exact (hown b hb).2.2 q
  · have mix : ∀ (i j : Nat) (o o' : AObj) (hi hj : Value) (b : Nat), (∃ j0 o0, H0'[j0]? = some o0 ∧ o = o0.rn (sub σ n) ∧ i = sub σ n j0 ∧ ρ' i = ρ1 j0) → (j ∉ σ ∧ H j = some o' ∧ ρ' j = ρ j) → o.live = true → o'.live = true → ρ' i = some hi → ρ' j = some hj → blkOf hi = some b → blkOf hj = some b → False := by
      rintro i j o o' hi hj b ⟨j0, o0, q1, rfl, q3, q4⟩ ⟨p1, p2, p3⟩ l1 l2 r1 r2 b1 b2
      rw [p3] at r2
      rw [q4] at r1
      rw [AObj.rn_live] at l1
      obtain ⟨g1, g2, g3⟩ := own j o' hj b p1 p2 l2 r2 b2
      rcases S1.lsrc b ⟨j0, o0, hi, q1, l1, r1, b1⟩ with q | q
      · omega
      · exact g3 q
    rcases parts i o e1 with p | ⟨p0, p1, p2, p3⟩ <;> rcases parts j o' e2 with q | ⟨q0, q1, q2, q3⟩
    · obtain ⟨j0, o0, g1, rfl, g3, g4⟩ := p
      obtain ⟨j1, o1, k1, rfl, k3, k4⟩ := q
      rw [g4] at r1
      rw [k4] at r2
      rw [AObj.rn_live] at l1 l2
      rw [g3, k3, E1.inj j0 j1 o0 o1 hi hj b g1 k1 l1 l2 r1 r2 b1 b2]
    · exact (mix i j o o' hi hj b p ⟨q1, q2, q3⟩ l1 l2 r1 r2 b1 b2).elim
    · exact (mix j i o' o hj hi b q ⟨p1, p2, p3⟩ l2 l1 r2 r1 b2 b1).elim
    · rw [p3] at r1
      rw [q3] at r2
      exact E.inj i j o o' hi hj b p2 q2 l1 l2 r1 r2 b1 b2
end
end Go.Proofs.YtpnbpcdmiiakcaaDoor
/- Small things that write out what the conditions speak of. No program is named here. -/
namespace Go.Proofs.YtpnbpcdmiiakcaaDoor
set_option linter.unusedSimpArgs false
set_option linter.unusedVariables false
open Go.RowKit
abbrev Tm := List (Nat × AV)
def lk : Tm → Nat → AV
  | [], _ => .any
  | (s, x) :: r, d => match Nat.beq s d with | true => x | false => lk r d
def constAV (v : Value) : AV :=
  match v with
  | .agg cs => match cs.toList.all (·.oneCell') with
    | true => .d (.agg (cs.toList.map .v))
    | false => .any
  | .bool b => .d (.v (.bool b))
  | .int k z => .d (.v (.int k z))
  | .string s => .d (.v (.string s))
  | v => .d (.v v)
def evAV (tm : Tm) : Operand → AV
  | .tmp t => lk tm t
  | .const v => constAV v
  | .global g => .d (.v (.pointer (some ⟨g, 0, none⟩)))
  | .func f => .fn (.func f) [] []
/-- A number written out. -/
def natK (n : Nat) (k : Nat → Prop) : Prop :=
  match n with
  | 0 => k 0 | 1 => k 1 | 2 => k 2 | 3 => k 3 | 4 => k 4 | 5 => k 5 | 6 => k 6 | 7 => k 7 | 8 => k 8 | 9 => k 9
  | 10 => k 10 | 11 => k 11 | 12 => k 12 | 13 => k 13 | 14 => k 14 | 15 => k 15 | 16 => k 16 | 17 => k 17 | 18 => k 18 | 19 => k 19
  | m => k m
theorem natK_iff {n : Nat} {k : Nat → Prop} : natK n k ↔ k n := by
  unfold natK
  split <;> rfl
def lenNK {α : Type} (l : List α) (k : Nat → Prop) : Prop := natK l.length k
def evsK (ev : Operand → AV) : List Operand → (List AV → Prop) → Prop
  | [], k => k []
  | o :: r, k => fAV (ev o) fun x => evsK ev r fun l => k (x :: l)
theorem evsK_out {ev : Operand → AV} : ∀ {os : List Operand} {k : List AV → Prop}, evsK ev os k → k (os.map ev)
  | [], _, h => h
  | _ :: r, _, h => evsK_out (os := r) (fAV_iff.1 h)
def appK {α : Type} : List α → List α → (List α → Prop) → Prop
  | [], ys, k => k ys
  | x :: r, ys, k => appK r ys fun l => k (x :: l)
theorem appK_out {α : Type} {ys : List α} : ∀ {xs : List α} {k : List α → Prop}, appK xs ys k → k (xs ++ ys)
  | [], _, h => h
  | _ :: r, _, h => appK_out (xs := r) h
def fAVs : List AV → (List AV → Prop) → Prop
  | [], k => k []
  | x :: r, k => fAV x fun y => fAVs r fun l => k (y :: l)
theorem fAVs_iff : ∀ {xs : List AV} {k : List AV → Prop}, fAVs xs k → k xs
  | [], _, h => h
  | _ :: r, _, h => fAVs_iff (xs := r) (fAV_iff.1 h)
/-- A result, written out one step deep. -/
def fRes (x : AV) (k : AV → Prop) : Prop :=
  fAV x fun x => match x with
  | .tup xs => fAVs xs fun l => k (.tup l)
  | .agg xs => fAVs xs fun l => k (.agg l)
  | x => k x
theorem fRes_out {x : AV} {k : AV → Prop} (h : fRes x k) : k x := by
  have h := fAV_iff.1 h
  split at h
  · exact fAVs_iff h
  · exact fAVs_iff h
  · exact h
def fObj (o : AObj) (k : AObj → Prop) : Prop :=
  fO o fun o => match o with
  | .cells cs => fAVs cs fun l => k (.cells l)
  | o => k o
theorem fObj_out {o : AObj} {k : AObj → Prop} (h : fObj o k) : k o := by
  have h := fO_iff.1 h
  split at h
  · exact fAVs_iff h
  · exact h
def otherK (P : Program) (op : Op) (ty : TypeId) (ev : Operand → AV) (L : List AObj) (K : Eff → AV → Prop) : Prop :=
  evsK ev op.operands.toList fun xs => lenNK L fun n => ∃ e r, Does P op ty L n xs e r ∧ fRes r (K e)
section
variable {P : Program} {L : List AObj} {ty : TypeId}
theorem otherK_out {op : Op} {ev : Operand → AV} {K : Eff → AV → Prop} (h : otherK P op ty ev L K) : ∃ e r, K e r ∧ Does P op ty L L.length (op.operands.toList.map ev) e r := by
  obtain ⟨e, r, h1, h2⟩ := natK_iff.1 (evsK_out h)
  exact ⟨e, r, fRes_out h2, h1⟩
end
end Go.Proofs.YtpnbpcdmiiakcaaDoor
/- Slices: make, append, pieces. No program is named here. -/
namespace Go.Proofs.YtpnbpcdmiiakcaaDoor
set_option linter.unusedSimpArgs false
set_option linter.unusedVariables false
open Go.RowKit
section
variable {P : Program} {w w' : World} {F F' : Nat → Prop} {ρ ρ' : Nat → Option Value} {H : Hp} {L : List AObj} {ty : TypeId} {n : Nat}
/-- What a row type's table tells of the elements. -/
theorem ti_elem {t : TypeId} (hk : (tiOf P t).kind = .sli) (hp : 0 < (tiOf P t).esize) (he : (tiOf P (tiOf P t).elem).kind ≠ .non) : ∃ i z, P.underlying t = some (.slice (tiOf P t).elem) ∧ P.info? (tiOf P t).elem = some i ∧ i.zero = some z ∧ i.size = (tiOf P t).esize ∧ i.bytes = (tiOf P t).ebytes ∧ z.cells.size = (tiOf P t).esize ∧ (tiOf P (tiOf P t).elem).zero = z.cells.toList ∧ ∀ v ∈ z.cells.toList, v.oneCell' = true := by
  obtain ⟨h1, h2, h3⟩ := ti_sli hk
  obtain ⟨i, h4, h5⟩ := info_of_cells h2 hp
  obtain ⟨i', d, z, hT, he'⟩ := tiOf_known he
  have : i' = i := by have := hT.info; rw [h4] at this; injection this with e; exact e.symm
  subst this
  refine ⟨i', z, h1, h4, hT.zero, h5, ?_, by rw [hT.size, h5], by rw [he']; cases d <;> rfl, hT.ones⟩
  unfold Program.bytesOf at h3
  rw [h4] at h3
  simpa using h3
theorem blk_own {v : Value} {A : Option Addr} {m c : Nat} (h : v = .slice A m c) : blkOf v = v.ownBlock := by subst h; cases A <;> rfl
theorem run_append_zero {t e : TypeId} {i : TypeInfo} {lo size m' c : Nat} {A : Option Addr} {v : Value} {xs : List Value} {ee : TypeId} (ht : P.underlying t = some (.slice e)) (hi : P.info? e = some i) (hown : Ow w lo ee size v m' xs) : (Builtin.append_ #[t, t] ty #[v, .slice A 0 c]).run P w = .ok v w := by
  rcases hown.2 with ⟨rfl, rfl⟩ | ⟨a, rfl, hlo, rfl⟩ | ⟨g, off, cap, rfl, hlo, hlt, hnc, _⟩
  · cases A <;> simp [Builtin.append_, run_underlying ht, sizeOf, typeInfo, hi, Builtin.lenOf, Builtin.firstCells, loadCells, loadCellsFrom]
  · cases A <;> simp [Builtin.append_, run_underlying ht, sizeOf, typeInfo, hi, Builtin.lenOf, Builtin.firstCells, storeCells, loadCells, loadCellsFrom]
  · cases A <;> simp [Builtin.append_, run_underlying ht, sizeOf, typeInfo, hi, Builtin.lenOf, Builtin.firstCells, hnc, storeCells, loadCells, loadCellsFrom]
/-- What append needs to know of what it appends. -/
def SrcOf (L : List AObj) (y : AV) (s : Nat) (rows : List (List D)) (rs : List Nat) : Prop :=
  (y = .d (.sl s rows) ∧ rs = []) ∨ (∃ j, y = .own j ∧ L[j]? = some (.sl s rows) ∧ rs = [j]) ∨ (∃ A c, y = .d (.v (.slice A 0 c)) ∧ rows = [] ∧ rs = [])
theorem SrcOf.rep {y : AV} {s : Nat} {rows : List (List D)} {rs : List Nat} {v : Value} (h : SrcOf L y s rows rs) (En : Env F ρ H w) (hL : ∀ i ∈ rs, H i = L[i]?) (hv : RA w F ρ y v) :
    ∃ A c vs, v = .slice A rows.length c ∧ Rd w w.heap.size s A rows.length vs ∧ RDs w F rows.flatten vs ∧ (rows = [] ∨ ∀ r ∈ rows, r.length = s) := by
  rcases h with ⟨rfl, rfl⟩ | ⟨j, rfl, hj, rfl⟩ | ⟨A, c, rfl, rfl, rfl⟩
  · cases hv with | d hv => cases hv with | sl hn hs h1 h2 hr hm =>
      subst hn
      have hl := hr.length
      have hfl : rows.flatten.length = rows.length * s := by
        clear hr hm hl h1
        induction rows with
        | nil => simp
        | cons r rows ih => simp [hs r (List.mem_cons_self ..), ih fun q hq => hs q (List.mem_cons_of_mem _ hq), Nat.add_mul]; omega
      refine ⟨_, _, _, rfl, ⟨by rw [hl, hfl], fun hp => ?_⟩, hr, .inr hs⟩
      obtain ⟨b, off, e, hb, hc⟩ := hm hp
      exact ⟨b, off, e, En.fb b hb, hc⟩
  · have hj' : H j = some (.sl s rows) := by rw [hL j (by simp)]; exact hj
    cases hv with | own hv =>
      obtain ⟨hh, e1, ⟨vs, how, hra, hs⟩, _⟩ := En.rep j _ hj' rfl
      rw [hv] at e1; injection e1 with e1; subst e1
      obtain ⟨A', c', he, h1, h2, hrd⟩ := how.form
      injection he with q1 q2 q3
      subst q1 q2 q3
      exact ⟨_, _, vs, rfl, hrd, hra, .inr hs⟩
  · have := hv.v_out
    subst this
    exact ⟨A, c, [], rfl, Rd.nil, .nil, .inl rfl⟩
/-- append onto a slice of the call's own. -/
theorem does_append {t : TypeId} {i s : Nat} {rows rows2 : List (List D)} {y : AV} {rs : List Nat} {sx xx : Operand} (hk : (tiOf P t).kind = .sli) (hs : (tiOf P t).esize = s) (hp : 0 < s) (he : (tiOf P (tiOf P t).elem).kind ≠ .non) (hi : L[i]? = some (.sl s rows)) (hy : SrcOf L y s rows2 rs)
    (hb : (rows.length + rows2.length) * (tiOf P t).ebytes ≤ 140737488355328) (hm : rows.length + rows2.length ≤ maxLen) :
    Does P (.call { callee := .builtin .append, args := #[sx, xx], argTypes := #[t, t] }) ty L n [.own i, y] ⟨i :: rs, [(i, .dead)], [.sl s (rows ++ rows2)]⟩ (.own n) := by
  intro o H F ρ w ev ho ht En hrs hn hx
  have hops : (Op.operands (.call { callee := .builtin .append, args := #[sx, xx], argTypes := #[t, t] })).toList = [sx, xx] := by simp [Op.operands, Call.operands]
  rw [hops] at hx
  obtain ⟨v, u, e', hv, hu⟩ := hx.two_out
  simp at e'
  have hn0 : H n = none := by simpa using hn 0 (by simp)
  have hi' : H i = some (.sl s rows) := by rw [hrs i (by simp)]; exact hi
  obtain ⟨A2, c2, vs2, rfl, hrd2, hra2, hs2⟩ := hy.rep En (fun j hj => hrs j (List.mem_cons_of_mem _ hj)) hu
  cases hv with | own hv =>
    rename_i A m c
    obtain ⟨hh, e1, ⟨vs, how, hra, hs1⟩, e3⟩ := En.rep i _ hi' rfl
    rw [hv] at e1; injection e1 with e1; subst e1
    obtain ⟨i0, z, h1, h2, h3, h4, h5, h6, _, _⟩ := ti_elem hk (by omega) he
    rw [hs] at h4 h6
    have hcat : ∀ r ∈ rows ++ rows2, r.length = s := fun r hr => (List.mem_append.1 hr).elim (hs1 r) fun hr => hs2.elim (fun e => by subst e; simp at hr) fun h => h r hr
    obtain ⟨v', w', hrun, ho', hg, hblk, _⟩ := run_append_ow (P := P) w 0 t o.type _ i0 z s _ h1 h2 h3 h4 h5 h6 hp (.slice A m c) rows.length vs how w.heap.size A2 rows2.length c2 vs2 hrd2 hra2.one hm hb (Nat.zero_le _)
    have hrun' : (execOp ev o).run P w = .ok (.value v') w' := by
      simp [execOp, ho, resolve, invoke, builtin, e'.1, e'.2, hrun]
    rw [hrun']
    obtain ⟨A', c', hv', _⟩ := ho'.form
    have hmF : ∀ b, F b → w'.heap[b]? = w.heap[b]? := fun b hbF => hg.block b (En.fb b hbF) fun e => (e3 b (by rw [blk_own rfl]; exact e.symm)).2 hbF
    have hin : ∀ b, blkOf v' = some b → (w.heap.size ≤ b ∧ b < w'.heap.size) ∨ blkOf (.slice A m c) = some b := by
      intro b hb'
      rw [blk_own hv'] at hb'
      rcases hblk with e | e
      · right; rw [blk_own rfl, ← e]; exact hb'
      · rw [e] at hb'; injection hb' with hb'
        rcases Nat.eq_zero_or_pos rows2.length with q | q
        · have hz : rows2 = [] := List.eq_nil_of_length_eq_zero q
          subst hz
          have hr0 := run_append_zero (P := P) (w := w) (ty := o.type) (A := A2) (c := c2) h1 h2 how
          simp only [List.length_nil] at hrun
          rw [hr0] at hrun
          injection hrun with q1 q2
          subst q1 q2
          right; rw [blk_own rfl, e, hb']
        · obtain ⟨g, off, cap, q1, _, q2, _⟩ := ho'.open_ (by omega)
          rw [q1] at e
          simp [Value.ownBlock] at e
          left; omega
    obtain ⟨S1, K1, E1⟩ := En.swap (n := n) (o' := .sl s (rows ++ rows2)) (h' := v') hi' rfl hv hn0 (by rw [blk_own rfl]; exact hg) hin
      ⟨vs ++ vs2, by rw [List.length_append]; exact ho', by rw [List.flatten_append]; exact (hra.mono hmF fun _ h => h).app (hra2.mono hmF fun _ h => h), hcat⟩
    refine ⟨F, _, S1, K1, E1, ?_⟩
    subst hv'
    exact .own (updF_same _ _ _)
theorem madeCells_rows (z : Value) (k : Nat) (hz : 0 < z.cells.size) : (madeCells z.cells (k * z.cells.size)).toList = ((List.replicate k z).flatMap fun v => v.cells.toList) := by
  apply List.ext_getElem?
  intro j
  rw [Great.flat_get hz _ (fun v hv => by rw [List.eq_of_mem_replicate hv])]
  unfold madeCells
  by_cases hj : j < k * z.cells.size
  · have h1 : j / z.cells.size < k := (Nat.div_lt_iff_lt_mul hz).2 hj
    have h2 := Nat.mod_lt j hz
    rw [List.getElem?_replicate, if_pos h1]
    simp [hj, h2]
  · have h1 : ¬ j / z.cells.size < k := fun h => hj ((Nat.div_lt_iff_lt_mul hz).1 h)
    rw [List.getElem?_replicate, if_neg h1]
    simp; omega
theorem rep_rows {z : Value} {s : Nat} (h6 : z.cells.size = s) (h8 : ∀ v ∈ z.cells.toList, v.oneCell' = true) (k : Nat) : RDs w F (List.replicate k (z.cells.toList.map .v)).flatten ((List.replicate k z).flatMap fun v => v.cells.toList) ∧ ∀ r ∈ List.replicate k (z.cells.toList.map D.v), r.length = s := by
  refine ⟨?_, fun r hr => by rw [List.eq_of_mem_replicate hr]; simp [h6]⟩
  induction k with
  | zero => exact .nil
  | succ k ih => rw [List.replicate_succ, List.replicate_succ, List.flatten_cons, List.flatMap_cons]; exact (dv_rep h8).app ih
theorem does_make {t : TypeId} {s c : Nat} {kd kd' : IntKind} {a b : Operand} (hk : (tiOf P t).kind = .sli) (hs : (tiOf P t).esize = s) (hp : 0 < s) (he : (tiOf P (tiOf P t).elem).kind ≠ .non) (hb : (tiOf P t).ebytes * c ≤ 281474976710656) (hm : c ≤ maxLen) :
    Does P (.makeSlice t a b) ty L n [.d (.v (.int kd c)), .d (.v (.int kd' c))] ⟨[], [], [.sl s (List.replicate c ((tiOf P (tiOf P t).elem).zero.map .v))]⟩ (.own n) := by
  intro o H F ρ w ev ho ht En hrs hn hx
  obtain ⟨v, u, e', hv, hu⟩ := hx.two_out
  simp [Op.operands] at e'
  have := hv.v_out
  have := hu.v_out
  subst v u
  have hn0 : H n = none := by simpa using hn 0 (by simp)
  obtain ⟨i0, z, h1, h2, h3, h4, h5, h6, h7, h8⟩ := ti_elem hk (by omega) he
  rw [hs] at h4 h6
  obtain ⟨w', hrun, hown, hg⟩ := run_make_full (P := P) w 0 t _ i0 z s h1 h2 h3 h4 kd kd' c (by rw [h5]; exact hb) hm (Nat.zero_le _)
  have hrun' : (execOp ev o).run P w = .ok (.value (.slice (some ⟨w.heap.size, 0, none⟩) c c)) w' := by simp [execOp, ho, e'.1, e'.2, hrun]
  rw [hrun']
  have hlt : w.heap.size < w'.heap.size := (hown.lt _ rfl).2
  have hrr := rep_rows (w := w') (F := F) h6 h8 c
  obtain ⟨S1, K1, E1⟩ := En.new (n := n) (o' := .sl s (List.replicate c ((tiOf P (tiOf P t).elem).zero.map .v))) (h := .slice (some ⟨w.heap.size, 0, none⟩) c c) hn0 hg (fun b hb => by simp [blkOf] at hb; subst hb; exact ⟨Nat.le_refl _, hlt⟩)
    ⟨_, by
      rw [List.length_replicate]
      have := Ow.of_own (e := (tiOf P t).elem) hown
      exact this, by
      rw [h7, ← h6, madeCells_rows z c (by omega)]; exact hrr.1, by rw [h7]; exact hrr.2⟩
  exact ⟨F, _, S1, K1, E1, .own (updF_same _ _ _)⟩
/-! ### pieces -/
theorem run_piece {t : TypeId} {s : Nat} (hk : (tiOf P t).kind = .sli) (hs : (tiOf P t).esize = s) (hp : 0 < s) {A : Option Addr} {m c lo hi : Nat} {kl kh : IntKind} (vlo vhi : Option Value) (hlo : (vlo = none ∧ lo = 0) ∨ vlo = some (.int kl lo)) (hhi : (vhi = none ∧ hi = m) ∨ vhi = some (.int kh hi)) (h1 : lo ≤ hi) (h2 : hi ≤ m) (h3 : m ≤ c) :
    (Instr.slice t (.slice A m c) vlo vhi none).run P w = .ok (.slice (if c = lo then A else A.map (·.add (lo * s))) (hi - lo) (c - lo)) w := by
  obtain ⟨g1, g2, _⟩ := ti_sli hk
  rw [hs] at g2
  obtain ⟨i, g3, g4⟩ := info_of_cells g2 hp
  have a1 : ((lo : Int) ≤ (hi : Int)) := by omega
  have a2 : ((hi : Int) ≤ (c : Int)) := by omega
  rcases hlo with ⟨rfl, rfl⟩ | rfl <;> rcases hhi with ⟨rfl, rfl⟩ | rfl
  · simp [Instr.slice, run_underlying g1, Instr.sliceBounds, sizeOf, typeInfo, g3, g4]
  · simp [Instr.slice, run_underlying g1, Instr.sliceBounds, Instr.sliceBound, asIntOf, sizeOf, typeInfo, g3, g4, show hi ≤ c by omega]
  · simp [Instr.slice, run_underlying g1, Instr.sliceBounds, Instr.sliceBound, asIntOf, sizeOf, typeInfo, g3, g4, h1]
  · simp [Instr.slice, run_underlying g1, Instr.sliceBounds, Instr.sliceBound, asIntOf, sizeOf, typeInfo, g3, g4, h1, show hi ≤ c by omega]
theorem flat_len {s : Nat} : ∀ {rows : List (List D)}, (∀ r ∈ rows, r.length = s) → rows.flatten.length = rows.length * s
  | [], _ => by simp
  | r :: rows, h => by
    rw [List.flatten_cons, List.length_append, h r (List.mem_cons_self ..), flat_len fun q hq => h q (List.mem_cons_of_mem _ hq), List.length_cons, Nat.add_mul]; omega
theorem flat_drop {s : Nat} : ∀ {rows : List (List D)} {k : Nat}, (∀ r ∈ rows, r.length = s) → (rows.drop k).flatten = rows.flatten.drop (k * s)
  | [], k, _ => by simp
  | r :: rows, 0, _ => by simp
  | r :: rows, k + 1, h => by
    have h1 := h r (List.mem_cons_self ..)
    rw [List.drop_succ_cons, flat_drop fun q hq => h q (List.mem_cons_of_mem _ hq), List.flatten_cons, List.drop_append, Nat.add_mul, Nat.one_mul, h1, Nat.add_sub_cancel, List.drop_of_length_le (l := r) (by omega)]; rfl
theorem flat_take {s : Nat} : ∀ {rows : List (List D)} {k : Nat}, (∀ r ∈ rows, r.length = s) → (rows.take k).flatten = rows.flatten.take (k * s)
  | [], k, _ => by simp
  | r :: rows, 0, _ => by simp
  | r :: rows, k + 1, h => by
    have h1 := h r (List.mem_cons_self ..)
    rw [List.take_succ_cons, List.flatten_cons, List.flatten_cons, flat_take fun q hq => h q (List.mem_cons_of_mem _ hq), List.take_append, Nat.add_mul, Nat.one_mul, h1, Nat.add_sub_cancel, List.take_of_length_le (l := r) (by omega)]
/-- A piece of data. -/
theorem RD.piece {s : Nat} {rows : List (List D)} {A : Option Addr} {m c lo hi : Nat} (h : RD w F (.sl s rows) (.slice A m c)) (h1 : lo ≤ hi) (h2 : hi ≤ rows.length) : m = rows.length ∧ m ≤ c ∧ RD w F (.sl s ((rows.take hi).drop lo)) (.slice (if c = lo then A else A.map (·.add (lo * s))) (hi - lo) (c - lo)) := by
  cases h with | sl hn hs g1 g2 hr hm =>
    subst hn
    have hs' : ∀ r ∈ (rows.take hi).drop lo, r.length = s := fun r hr => hs r (List.mem_of_mem_take (List.mem_of_mem_drop hr))
    refine ⟨rfl, g1, .sl (by simp; omega) hs' (by omega) (by omega) (by rw [flat_drop fun r hr => hs r (List.mem_of_mem_take hr), flat_take hs]; exact (hr.take (hi * s)).drop (lo * s)) fun hp => ?_⟩
    obtain ⟨b, off, rfl, hb, hc⟩ := hm (by omega)
    rw [if_neg (by omega)]
    refine ⟨b, off + lo * s, by simp [Addr.add_lit], hb, fun j hj => ?_⟩
    rw [Nat.add_assoc]
    simp only [List.length_drop, List.length_take] at hj
    rw [hc _ (by omega)]
    simp
theorem does_piece {t : TypeId} {s : Nat} {rows : List (List D)} {lo hi : Nat} {kl kh : IntKind} {x a b : Operand} (hk : (tiOf P t).kind = .sli) (hs : (tiOf P t).esize = s) (hp : 0 < s) (h1 : lo ≤ hi) (h2 : hi ≤ rows.length) :
    Does P (.slice t x (some a) (some b) none) ty L n [.d (.sl s rows), .d (.v (.int kl lo)), .d (.v (.int kh hi))] e0 (.d (.sl s ((rows.take hi).drop lo))) := does_val fun o w F ρ ev ho _ hx => by
  obtain ⟨v, u1, u2, e', hv, hu1, hu2⟩ := hx.three_out
  simp [Op.operands] at e'
  have := hu1.v_out
  have := hu2.v_out
  subst u1 u2
  cases hv with | d hv =>
    have hv0 := hv
    cases hv with | sl hn hs' g1 g2 hr hm =>
      rename_i A m c cs
      obtain ⟨q1, q2, q3⟩ := hv0.piece h1 h2
      refine ⟨_, ?_, .d q3⟩
      have hrun := run_piece (P := P) (w := w) hk hs hp (A := A) (m := m) (c := c) (lo := lo) (hi := hi) (kl := kl) (kh := kh) _ _ (.inr rfl) (.inr rfl) h1 (by omega) g1
      simp [execOp, ho, e'.1, e'.2.1, e'.2.2, hrun, Instr.sliceAt, run_underlying (ti_sli hk).1]
theorem does_from {t : TypeId} {s : Nat} {rows : List (List D)} {lo : Nat} {kl : IntKind} {x a : Operand} (hk : (tiOf P t).kind = .sli) (hs : (tiOf P t).esize = s) (hp : 0 < s) (h1 : lo ≤ rows.length) :
    Does P (.slice t x (some a) none none) ty L n [.d (.sl s rows), .d (.v (.int kl lo))] e0 (.d (.sl s (rows.drop lo))) := does_val fun o w F ρ ev ho _ hx => by
  obtain ⟨v, u1, e', hv, hu1⟩ := hx.two_out
  simp [Op.operands] at e'
  have := hu1.v_out
  subst u1
  cases hv with | d hv =>
    have hv0 := hv
    cases hv with | sl hn hs' g1 g2 hr hm =>
      rename_i A m c cs
      obtain ⟨q1, q2, q3⟩ := hv0.piece h1 (Nat.le_refl _)
      rw [List.take_of_length_le (Nat.le_refl _)] at q3
      refine ⟨_, ?_, .d q3⟩
      have hrun := run_piece (P := P) (w := w) hk hs hp (A := A) (m := m) (c := c) (lo := lo) (hi := rows.length) (kl := kl) (kh := .i64) _ _ (.inr rfl) (.inl ⟨rfl, hn⟩) h1 (by omega) g1
      simp [execOp, ho, e'.1, e'.2, hrun, Instr.sliceAt, run_underlying (ti_sli hk).1]
end
end Go.Proofs.YtpnbpcdmiiakcaaDoor
/- Literals of slices and structs; least and greatest; numbers of another kind. No program is named here. -/
namespace Go.Proofs.YtpnbpcdmiiakcaaDoor
set_option linter.unusedSimpArgs false
set_option linter.unusedVariables false
open Go.RowKit
section
variable {P : Program} {w w' : World} {F F' : Nat → Prop} {ρ ρ' : Nat → Option Value} {H : Hp} {L : List AObj} {ty : TypeId} {n : Nat}
/-- A value as the cells of an element. -/
def rowOfK (size : Nat) (x : AV) (k : List D → Prop) : Prop :=
  match x with
  | .d (.v u) => oneV u (eqK size 1 (k [.v u]))
  | .d (.sl s r) => eqK size 1 (k [.sl s r])
  | .d (.agg ds) => match bigB size with
    | true => ds.length = size ∧ k ds
    | false => takeK ds size fun l => lenK ds size (k l)
  | _ => False
theorem rowOfK_out {size : Nat} {x : AV} {k : List D → Prop} (h : rowOfK size x k) : ∃ r, k r ∧ r.length = size ∧ ∀ w F ρ v, RA w F ρ x v → v.cells.size = size ∧ RDs w F r v.cells.toList := by
  unfold rowOfK at h
  split at h
  · obtain ⟨h1, h2, h3⟩ := oneV_out h
    obtain ⟨e, h4⟩ := eqK_out h3
    exact ⟨_, h4, e.symm, fun w F ρ v hr => by have := hr.v_out; subst this; rw [h2]; exact ⟨e.symm, .cons (.v _) h1 .nil⟩⟩
  · obtain ⟨e, h4⟩ := eqK_out h
    exact ⟨_, h4, e.symm, fun w F ρ v hr => by cases hr with | d hr => (have hr' := hr; cases hr with | sl a b c d e' f => exact ⟨e.symm, .cons hr' rfl .nil⟩)⟩
  · split at h
    · refine ⟨_, h.2, h.1, fun w F ρ v hr => ?_⟩
      cases hr with | d hr => cases hr with | agg hr => exact ⟨by simpa [Value.cells] using hr.length.trans h.1, by simpa [Value.cells] using hr⟩
    · obtain ⟨h1, h2⟩ := takeK_out h
      obtain ⟨h3, h4⟩ := lenK_out h2
      rw [List.take_of_length_le (by omega)] at h4
      refine ⟨_, h4, h3, fun w F ρ v hr => ?_⟩
      cases hr with | d hr => cases hr with | agg hr => exact ⟨by simpa [Value.cells] using hr.length.trans h3, by simpa [Value.cells] using hr⟩
  · exact h.elim
def rowsOfK (size : Nat) : List AV → (List (List D) → Prop) → Prop
  | [], k => k []
  | x :: r, k => rowOfK size x fun y => rowsOfK size r fun l => k (y :: l)
theorem rowsOfK_out {size : Nat} : ∀ {xs : List AV} {k : List (List D) → Prop}, rowsOfK size xs k → ∃ rows, k rows ∧ (∀ r ∈ rows, r.length = size) ∧ rows.length = xs.length ∧ ∀ w F ρ vs, RAs w F ρ xs vs → (∀ v ∈ vs, v.cells.size = size) ∧ RDs w F rows.flatten (vs.flatMap fun v => v.cells.toList)
  | [], k, h => ⟨[], h, by simp, rfl, fun w F ρ vs hr => by cases hr; exact ⟨by simp, .nil⟩⟩
  | x :: r, k, h => by
    obtain ⟨y, h1, h2, h3⟩ := rowOfK_out h
    obtain ⟨rows, h4, h5, h6, h7⟩ := rowsOfK_out (xs := r) h1
    refine ⟨y :: rows, h4, fun q hq => (List.mem_cons.1 hq).elim (fun e => e ▸ h2) (h5 q), by simp [h6], fun w F ρ vs hr => ?_⟩
    cases hr with | cons hr hrs =>
      obtain ⟨g1, g2⟩ := h3 w F ρ _ hr
      obtain ⟨g3, g4⟩ := h7 w F ρ _ hrs
      refine ⟨fun v hv => (List.mem_cons.1 hv).elim (fun e => e ▸ g1) (g3 v), ?_⟩
      rw [List.flatten_cons, List.flatMap_cons]
      exact g2.app g4
/-- The parts stand in order, and are all. -/
def seqB : List (Nat × Operand) → Nat → Nat → Bool
  | [], i, len => Nat.beq i len
  | (j, _) :: r, i, len => Nat.beq j i && seqB r (i + 1) len
theorem seqB_out {ev : Operand → Value} : ∀ {ps : List (Nat × Operand)} {i len : Nat}, seqB ps i len = true → i + ps.length = len ∧ (ps.map fun p => (p.1, ev p.2)) = ((ps.map fun p => ev p.2).zipIdx i).map fun x => (x.2, x.1)
  | [], i, len, h => ⟨by simpa using Nat.eq_of_beq_eq_true h, rfl⟩
  | (j, x) :: r, i, len, h => by
    simp only [seqB, Bool.and_eq_true] at h
    have := Nat.eq_of_beq_eq_true h.1
    subst this
    obtain ⟨h1, h2⟩ := seqB_out (ev := ev) (ps := r) h.2
    exact ⟨by simp; omega, by simp [h2]⟩
def buildSliceK (T : TypeId → TI) (t len : Nat) (ps : List (Nat × Operand)) (ev : Operand → AV) (L : List AObj) (K : Eff → AV → Prop) : Prop :=
  match (T t).kind with
  | .sli => nonK (T (T t).elem) <| posK (T t).esize <| match seqB ps 0 len && Nat.ble (len * (T t).esize) 16777216 with
    | true => evsK ev (ps.map (·.2)) fun xs => rowsOfK (T t).esize xs fun rows => lenNK L fun n => K ⟨[], [], [.sl (T t).esize rows]⟩ (.own n)
    | false => False
  | _ => False
theorem buildSliceK_out {t len : Nat} {ps : Array (Nat × Operand)} {ev : Operand → AV} {K : Eff → AV → Prop} (h : buildSliceK (tiOf P) t len ps.toList ev L K) : ∃ e r, K e r ∧ Does P (.buildSlice t len ps) ty L L.length ((Op.operands (.buildSlice t len ps)).toList.map ev) e r := by
  unfold buildSliceK at h
  split at h
  · rename_i hk
    obtain ⟨he, h⟩ := nonK_out h
    obtain ⟨hp, h⟩ := posK_out h
    split at h
    · rename_i hsq
      simp only [Bool.and_eq_true, Nat.ble_eq] at hsq
      obtain ⟨rows, h1, h2, h3, h4⟩ := rowsOfK_out (evsK_out h)
      refine ⟨_, _, natK_iff.1 h1, fun o H F ρ w ev' ho ht En hrs hn hx => ?_⟩
      have hops : (Op.operands (.buildSlice t len ps)).toList = ps.toList.map (·.2) := by simp [Op.operands]
      rw [hops] at hx
      have hn0 : H L.length = none := by simpa using hn 0 (by simp)
      obtain ⟨i0, z, g1, g2, g3, g4, g5, g6, _, _⟩ := ti_elem hk hp he
      obtain ⟨q1, q2⟩ := seqB_out (ev := ev') hsq.1
      obtain ⟨q3, q4⟩ := h4 w F ρ _ hx
      rw [List.map_map] at q3 q4
      have hlen : (List.map (ev' ∘ fun x => x.snd) ps.toList).length = len := by simp; simpa using q1
      have hrl : rows.length = len := by rw [h3]; simp; simpa using q1
      have hvs : ps.toList.map (fun p => ev' p.2) = List.map (ev' ∘ fun x => x.snd) ps.toList := rfl
      rw [hvs] at q2
      generalize List.map (ev' ∘ fun x => x.snd) ps.toList = vs at q2 q3 q4 hlen
      have hbase : ∃ cells : Array Value, cells.toList = (vs.flatMap fun v => v.cells.toList) ∧ (Instr.buildSlice t len (ps.map fun (i, x) => (i, ev' x))).run P w = .ok (.slice (some ⟨w.heap.size, 0, none⟩) len len) (w.alloc (.cells cells (tiOf P t).elem)) := by
        rcases Nat.eq_zero_or_pos len with hz | hz
        · have hv : vs = [] := List.eq_nil_of_length_eq_zero (by omega)
          subst hv
          refine ⟨#[], rfl, ?_⟩
          have hps : ps = #[] := by
            have := q1; rw [hz] at this; simp at this; exact this
          subst hps
          subst hz
          simp [Instr.buildSlice, run_underlying g1, sizeOf, typeInfo, g2, newRow, Instr.fill, Array.range_zero']
        · refine ⟨(vs.flatMap fun v => v.cells.toList).toArray, by simp, run_buildSlice w t _ len _ _ i0 z g1 g2 g3 (by rw [g4]; have := hsq.2; omega) (by rw [g4]; exact Nat.ne_of_gt (Nat.mul_pos hz hp)) ?_⟩
          have := Great.fill_whole (s := i0.size) (by omega) vs ((Array.range (len * i0.size)).map (z.cells[· % z.cells.size]!)) (by rw [g4]; exact q3) (by simp [hlen])
          rw [← this]
          congr 1
          rw [← q2]; simp
      obtain ⟨cells, hc, hrun⟩ := hbase
      have hrun' : (execOp ev' o).run P w = .ok (.value (.slice (some ⟨w.heap.size, 0, none⟩) len len)) (w.alloc (.cells cells (tiOf P t).elem)) := by
        simp [execOp, ho, hrun]
      rw [hrun']
      have hcl : cells.size = len * (tiOf P t).esize := by
        have := q4.length
        rw [← hc, flat_len h2, hrl] at this
        simpa using this
      have hlm : len ≤ maxLen := by
        have : len ≤ len * (tiOf P t).esize := Nat.le_mul_of_pos_right _ hp
        have := hsq.2
        unfold maxLen; omega
      have hm : ∀ b, F b → (w.alloc (.cells cells (tiOf P t).elem)).heap[b]? = w.heap[b]? := fun b hb => Below.heap_alloc w _ b (En.fb b hb)
      have how : Ow (w.alloc (.cells cells (tiOf P t).elem)) 0 (tiOf P t).elem (tiOf P t).esize (.slice (some ⟨w.heap.size, 0, none⟩) len len) len cells.toList := Ow.lit w cells len (Nat.zero_le _) hlm hcl
      obtain ⟨S1, K1, E1⟩ := En.new (w' := w.alloc (.cells cells (tiOf P t).elem)) (n := L.length) (o' := .sl (tiOf P t).esize rows) (h := .slice (some ⟨w.heap.size, 0, none⟩) len len) hn0 (grown_alloc w _ none) (fun b hb => by simp [blkOf] at hb; subst hb; simp)
        ⟨cells.toList, by rw [hrl]; exact how, by rw [hc]; exact q4.mono hm fun _ h => h, h2⟩
      exact ⟨F, _, S1, K1, E1, .own (updF_same _ _ _)⟩
    · exact h.elim
  · exact h.elim
/-! ### least and greatest -/
def mmK (mx : Bool) (x y : AV) (K : Eff → AV → Prop) (Q : Prop) : Prop :=
  match x, y with
  | .d (.v (.int k a)), .d (.v (.int _ b)) => match mx with
    | true => K e0 (.d (.v (.int k (if b > a then b else a))))
    | false => K e0 (.d (.v (.int k (if b < a then b else a))))
  | _, _ => Q
theorem mmK_out {mx : Bool} {x y : AV} {K : Eff → AV → Prop} {Q : Prop} {a b : Operand} {ts : Array TypeId} (h : mmK mx x y K Q) : (∃ e r, K e r ∧ Does P (.call { callee := .builtin (if mx then .max else .min), args := #[a, b], argTypes := ts }) ty L n [x, y] e r) ∨ Q := by
  unfold mmK at h
  split at h
  · rename_i k p k' q
    have hops : Op.operands (.call { callee := .builtin (if mx then .max else .min), args := #[a, b], argTypes := ts }) = #[a, b] := by simp [Op.operands, Call.operands]
    cases mx with
    | true => exact .inl ⟨_, _, h, does_lit2 hops fun o w ev ho h1 h2 => by simp [execOp, ho, resolve, invoke, builtin, h1, h2, Builtin.max_, Builtin.max2]⟩
    | false => exact .inl ⟨_, _, h, does_lit2 hops fun o w ev ho h1 h2 => by simp [execOp, ho, resolve, invoke, builtin, h1, h2, Builtin.min_, Builtin.min2]⟩
  · exact .inr h
/-! ### numbers of another kind -/
def kOf (tag : Nat) : Option IntKind :=
  match tag with
  | 20 => some .i8 | 21 => some .i16 | 22 => some .i32 | 23 => some .i64 | 24 => some .u8 | 25 => some .u16 | 26 => some .u32 | 27 => some .u64
  | _ => none
theorem ti_int {t : TypeId} {k : IntKind} (h : kOf (tiOf P t).tag = some k) : P.underlying t = some (.int k) := by
  have hne : (tiOf P t).kind ≠ .non := fun e => by rw [ti_non e] at h; cases h
  obtain ⟨i, d, z, hT, he⟩ := tiOf_known hne
  rw [he] at h
  cases d <;> try (cases h; done)
  rename_i k'
  have : k' = k := by cases k' <;> (simp [tagOf, kOf] at h; exact h)
  subst this
  exact hT.und
def convK (T : TypeId → TI) (src dst : TypeId) (x : AV) (K : Eff → AV → Prop) (Q : Prop) : Prop :=
  match x with
  | .d (.v (.int _ z)) => match kOf (T src).tag, kOf (T dst).tag with
    | some _, some k => K e0 (.d (.v (.int k (k.wrap z))))
    | _, _ => Q
  | _ => Q
theorem convK_out {src dst : TypeId} {x : AV} {K : Eff → AV → Prop} {Q : Prop} {a : Operand} (h : convK (tiOf P) src dst x K Q) : (∃ e r, K e r ∧ Does P (.convert src dst a) ty L n [x] e r) ∨ Q := by
  unfold convK at h
  split at h
  · split at h
    · rename_i k0 k h1 h2
      refine .inl ⟨_, _, h, does_lit1 rfl fun o w ev ho h3 => ?_⟩
      have q1 := ti_int h1
      have q2 := ti_int h2
      simp [execOp, ho, h3, convert, run_underlying q1, run_underlying q2, Conv.intToInt]
    · exact .inr h
  · exact .inr h
/-! ### literals of structs and arrays -/
def placeK (T : TypeId → TI) (ti : TI) (f : Nat) (k : Nat → Nat → Prop) : Prop :=
  match ti.kind with
  | .st => pairK ti.fields f fun off ft => posK (T ft).size (k off (T ft).size)
  | .arr => posK ti.esize (k (f * ti.esize) ti.esize)
  | _ => False
def fldsB (T : TypeId → TI) : List (Nat × Nat) → Bool
  | [] => true
  | (_, ft) :: r => Nat.blt 0 (T ft).size && fldsB T r
def bldK (T : TypeId → TI) (ti : TI) (ev : Operand → AV) : List (Nat × Operand) → List AV → (List AV → Prop) → Prop
  | [], m, k => k m
  | (f, x) :: r, m, k => placeK T ti f fun off size => fAV (ev x) fun y => partsK size y fun ps => lenK ps size <| setsK m off ps fun m' => bldK T ti ev r m' k
def bldDK (T : TypeId → TI) (ti : TI) (ev : Operand → AV) : List (Nat × Operand) → List D → (List D → Prop) → Prop
  | [], m, k => ∃ ds, m = ds ∧ k ds
  | (f, x) :: r, m, k => placeK T ti f fun off size => fAV (ev x) fun y => dataK size y fun ys => match Nat.ble (off + size) ti.size with
    | true => bldDK T ti ev r (sets m off ys) k
    | false => False
def aggK (ti : TI) (p : Prop) : Prop := match ti.kind with | .st => p | .arr => posK ti.esize p | _ => False
theorem aggK_out {ti : TI} {p : Prop} (h : aggK ti p) : (ti.kind = .st ∨ (ti.kind = .arr ∧ 0 < ti.esize)) ∧ p := by
  unfold aggK at h
  split at h
  · rename_i hk; exact ⟨.inl hk, h⟩
  · rename_i hk; exact ⟨.inr ⟨hk, (posK_out h).1⟩, (posK_out h).2⟩
  · exact h.elim
def buildK (T : TypeId → TI) (t : TypeId) (ps : List (Nat × Operand)) (ev : Operand → AV) (K : Eff → AV → Prop) : Prop :=
  nonK (T t) <| aggK (T t) <| match fldsB T (T t).fields with
    | false => False
    | true => match bigB (T t).size with
      | false => mapVK (T t).zero fun m => bldK T (T t) ev ps m fun l => mkAggK l (K e0)
      | true => bldDK T (T t) ev ps ((T t).zero.map .v) fun ds => K e0 (.d (.agg ds))
theorem fold_sets : ∀ (us : List Value) (cells : Array Value) (off i : Nat), (us.zipIdx i).foldl (fun cs (x : Value × Nat) => cs.setIfInBounds (off + x.2) x.1) cells = (sets cells.toList (off + i) us).toArray
  | [], cells, off, i => by simp [sets]
  | u :: us, cells, off, i => by
    rw [List.zipIdx_cons, List.foldl_cons, fold_sets us _ off (i + 1)]
    simp [sets, Nat.add_assoc]
theorem fill_cons {place : Nat → Option (Nat × Nat)} {cells : Array Value} {f off size : Nat} {v : Value} {r : List (Nat × Value)} (h : place f = some (off, size)) (h1 : v.cells.size = size) (h2 : off + size ≤ cells.size) :
    Instr.fill place cells ((f, v) :: r) = Instr.fill place (sets cells.toList off v.cells.toList).toArray r := by
  have hf : v.cells.zipIdx.foldl (fun cs (x : Value × Nat) => cs.setIfInBounds (off + x.2) x.1) cells = (sets cells.toList off v.cells.toList).toArray := by
    have := fold_sets v.cells.toList cells off 0
    rw [Nat.add_zero] at this
    rw [← this, ← Array.foldl_toList]
    simp
  simp only [Instr.fill, h]
  have hc : (v.cells.size ≠ size || decide (off + v.cells.size > cells.size)) = false := by simp [h1]; omega
  rw [if_neg (by rw [hc]; simp)]
  rw [← hf]
theorem bldK_out {T : TypeId → TI} {ti : TI} {place : Nat → Option (Nat × Nat)} (hpl : ∀ f (k : Nat → Nat → Prop), placeK T ti f k → ∃ off size, place f = some (off, size) ∧ 0 < size ∧ k off size) {ev : Operand → AV} {k : List AV → Prop} :
    ∀ {ps : List (Nat × Operand)} {m : List AV}, bldK T ti ev ps m k → ∃ m', k m' ∧ ∀ (w : World) (F : Nat → Prop) (ρ : Nat → Option Value) (ev' : Operand → Value) (cells : Array Value), (∀ p ∈ ps, RA w F ρ (ev p.2) (ev' p.2)) → RAs w F ρ m cells.toList → (∀ v ∈ cells.toList, v.oneCell' = true) →
      ∃ cells', Instr.fill place cells (ps.map fun p => (p.1, ev' p.2)) = some cells' ∧ RAs w F ρ m' cells'.toList ∧ ∀ v ∈ cells'.toList, v.oneCell' = true
  | [], m, h => ⟨m, h, fun w F ρ ev' cells _ hr ho => ⟨cells, rfl, hr, ho⟩⟩
  | (f, x) :: r, m, h => by
    obtain ⟨off, size, h1, hpos, h2⟩ := hpl _ _ h
    obtain ⟨pl, h3, h4⟩ := partsK_out (fAV_iff.1 h2)
    obtain ⟨h5, h6⟩ := lenK_out h3
    have hle := setsK_le h6
    have h7 := setsK_val h6
    obtain ⟨m', hk, hr'⟩ := bldK_out hpl (ps := r) h7
    refine ⟨m', hk, fun w F ρ ev' cells hev hr ho => ?_⟩
    obtain ⟨g1, g2⟩ := h4 w F ρ (ev' x) (hev (f, x) (List.mem_cons_self ..))
    have g3 := g1.length
    have g4 := hr.length
    have hsz : (ev' x).cells.size = size := by simpa using g3.trans h5
    have hb : off + size ≤ cells.size := by
      have : cells.size = m.length := by simpa using g4
      rcases hle with e | e
      · have e0 : pl.length = 0 := by rw [e]; rfl
        omega
      · omega
    obtain ⟨cells', q2, q3, q4⟩ := hr' w F ρ ev' (sets cells.toList off (ev' x).cells.toList).toArray (fun p hp => hev p (List.mem_cons_of_mem _ hp)) (by simpa using hr.sets g1) (fun v hv => (mem_sets (by simpa using hv)).elim (ho v) (g2 v))
    exact ⟨cells', by rw [List.map_cons, fill_cons h1 hsz hb]; exact q2, q3, q4⟩
theorem bldDK_out {T : TypeId → TI} {ti : TI} {place : Nat → Option (Nat × Nat)} (hpl : ∀ f (k : Nat → Nat → Prop), placeK T ti f k → ∃ off size, place f = some (off, size) ∧ 0 < size ∧ k off size) {ev : Operand → AV} {k : List D → Prop} :
    ∀ {ps : List (Nat × Operand)} {m : List D}, bldDK T ti ev ps m k → ∃ ds, k ds ∧ ∀ (w : World) (F : Nat → Prop) (ρ : Nat → Option Value) (ev' : Operand → Value) (cells : Array Value), (∀ p ∈ ps, RA w F ρ (ev p.2) (ev' p.2)) → cells.size = ti.size → RDs w F m cells.toList → ∃ cells', Instr.fill place cells (ps.map fun p => (p.1, ev' p.2)) = some cells' ∧ RDs w F ds cells'.toList
  | [], m, h => by
    obtain ⟨ds, rfl, hk⟩ := h
    exact ⟨m, hk, fun w F ρ ev' cells _ _ hr => ⟨cells, rfl, hr⟩⟩
  | (f, x) :: r, m, h => by
    obtain ⟨off, size, h1, hpos, h2⟩ := hpl _ _ h
    obtain ⟨ys, h3, h4, h5⟩ := dataK_out (fAV_iff.1 h2)
    split at h3
    case h_2 => exact h3.elim
    rename_i htot
    have htot := Nat.le_of_ble_eq_true htot
    obtain ⟨ds, hk, hr⟩ := bldDK_out hpl (ps := r) h3
    refine ⟨ds, hk, fun w F ρ ev' cells hev hc hm => ?_⟩
    have g1 := h5 w F ρ (ev' x) (hev (f, x) (List.mem_cons_self ..))
    have hsz : (ev' x).cells.size = size := by simpa using g1.length.trans h4
    obtain ⟨cells', q1, q2⟩ := hr w F ρ ev' (sets cells.toList off (ev' x).cells.toList).toArray (fun p hp => hev p (List.mem_cons_of_mem _ hp)) (by simp [length_sets, hc]) (by simpa using hm.sets g1)
    exact ⟨cells', by rw [List.map_cons, fill_cons h1 hsz (by rw [hc]; exact htot)]; exact q1, q2⟩
theorem fldsB_out {fs : List Field} (h : fldsB (tiOf P) (fs.map fun f => (f.offset, f.type)) = true) : fs.mapM (fun f => (P.info? f.type).map fun i => (f.offset, i.size)) = some (fs.map fun f => (f.offset, (tiOf P f.type).size)) := by
  induction fs with
  | nil => rfl
  | cons f fs ih =>
    simp only [List.map_cons, fldsB, Bool.and_eq_true, Nat.blt_eq] at h
    obtain ⟨i, d, z, hT, he⟩ := tiOf_known (ti_size_pos h.1)
    have hs : (tiOf P f.type).size = i.size := by rw [he]; cases d <;> rfl
    simp [List.mapM_cons, hT.info, ih h.2, hs]
theorem buildK_out {t : TypeId} {ps : Array (Nat × Operand)} {ev : Operand → AV} {K : Eff → AV → Prop} (h : buildK (tiOf P) t ps.toList ev K) : ∃ e r, K e r ∧ Does P (.build t ps) ty L n ((Op.operands (.build t ps)).toList.map ev) e r := by
  obtain ⟨hne, h⟩ := nonK_out h
  obtain ⟨i, d, z, hT, he⟩ := tiOf_known hne
  have hz : (tiOf P t).zero = z.cells.toList := by rw [he]; cases d <;> rfl
  have hsz : (tiOf P t).size = z.cells.size := by rw [hT.size, he]; cases d <;> rfl
  have hops : (Op.operands (.build t ps)).toList = ps.toList.map (·.2) := by simp [Op.operands]
  rw [hops]
  obtain ⟨hka, h⟩ := aggK_out h
  split at h
  · exact h.elim
  · rename_i hfl
    -- the places, and what is built there
    have hpl : ∃ place : Nat → Option (Nat × Nat), (∀ f (k : Nat → Nat → Prop), placeK (tiOf P) (tiOf P t) f k → ∃ off size, place f = some (off, size) ∧ 0 < size ∧ k off size) ∧
        (∀ parts cells, Instr.fill place z.cells parts = some cells → P.built t parts = some cells) := by
      cases d with
      | struct fs =>
        have hfields : (tiOf P t).fields = fs.toList.map fun f => (f.offset, f.type) := by rw [he]
        rw [hfields] at hfl
        have hm := fldsB_out hfl
        refine ⟨fun f => (fs.toList.map fun f => (f.offset, (tiOf P f.type).size)).toArray[f]?, fun f k hk => ?_, fun parts cells hf => ?_⟩
        · unfold placeK at hk
          split at hk
          · obtain ⟨off, ft, h1, h2⟩ := pairK_out hk
            obtain ⟨h3, h4⟩ := posK_out h2
            rw [hfields, List.getElem?_map] at h1
            obtain ⟨fd, h5, h6⟩ := Option.map_eq_some_iff.1 h1
            simp at h6
            refine ⟨off, (tiOf P ft).size, ?_, h3, h4⟩
            simp at h5
            simp [h5, h6.1, h6.2]
          · rename_i hk'; rw [he] at hk'; cases hk'
          · exact hk.elim
        · unfold Program.built
          simp only [hT.info, hT.und, hT.zero, hm]
          exact hf
      | array m e =>
        have helem : (tiOf P t).elem = e ∧ (tiOf P t).esize = P.cellsOf e := by rw [he]; exact ⟨rfl, rfl⟩
        have hp : 0 < (tiOf P t).esize := by
          rcases hka with q | q
          · rw [he] at q; cases q
          · exact q.2
        obtain ⟨ie, g1, g2⟩ := info_of_cells helem.2.symm hp
        refine ⟨fun f => some (f * ie.size, ie.size), fun f k hk => ?_, fun parts cells hf => ?_⟩
        · unfold placeK at hk
          split at hk
          · rename_i hk'; rw [he] at hk'; cases hk'
          · obtain ⟨h3, h4⟩ := posK_out hk
            exact ⟨_, _, rfl, by omega, by rw [g2]; exact h4⟩
          · exact hk.elim
        · unfold Program.built
          simp only [hT.info, hT.und, hT.zero, g1]
          exact hf
      | _ => exfalso; rw [he] at hka; simp at hka
    obtain ⟨place, hpl, hbuilt⟩ := hpl
    have fin : ∀ {r : AV}, K e0 r → (∀ (w : World) (F : Nat → Prop) (ρ : Nat → Option Value) (ev' : Operand → Value), (∀ p ∈ ps.toList, RA w F ρ (ev p.2) (ev' p.2)) → ∃ cells', Instr.fill place z.cells (ps.toList.map fun p => (p.1, ev' p.2)) = some cells' ∧ RA w F ρ r (.agg cells')) →
        ∃ e r, K e r ∧ Does P (.build t ps) ty L n ((ps.toList.map (·.2)).map ev) e r := by
      intro r hK hr
      refine ⟨_, _, hK, does_val fun o w F ρ ev' ho _ hx => ?_⟩
      rw [hops] at hx
      have hall : ∀ (l : List (Nat × Operand)), RAs w F ρ ((l.map (·.2)).map ev) ((l.map (·.2)).map ev') → ∀ p ∈ l, RA w F ρ (ev p.2) (ev' p.2) := by
        intro l
        induction l with
        | nil => intro _ p hp; simp at hp
        | cons q l ih =>
          intro hx p hp
          cases hx with | cons h1 h2 =>
            rcases List.mem_cons.1 hp with e | e
            · subst e; exact h1
            · exact ih h2 p e
      obtain ⟨cells', h1, h2⟩ := hr w F ρ ev' (hall _ hx)
      refine ⟨.agg cells', ?_, h2⟩
      have hrun := run_build (P := P) w t (ps.map fun (i, x) => (i, ev' x)) cells' (hbuilt _ _ (by simpa using h1))
      simp [execOp, ho, hrun]
    split at h
    · have h := mapVK_out h
      obtain ⟨m', h1, h2⟩ := bldK_out hpl h
      obtain ⟨r, h3, h4⟩ := mkAggK_out h1
      refine fin h3 fun w F ρ ev' hev => ?_
      have hz0 : RAs w F ρ ((tiOf P t).zero.map fun v => .d (.v v)) z.cells.toList := by
        rw [hz]
        have := RAs.ofD (ρ := ρ) (dv_rep (w := w) (F := F) hT.ones)
        rw [List.map_map] at this
        exact this
      obtain ⟨cells', q1, q2, q3⟩ := h2 w F ρ ev' z.cells hev hz0 hT.ones
      exact ⟨cells', q1, by have := h4 w F ρ _ q2 q3; simpa using this⟩
    · obtain ⟨ds, h1, h2⟩ := bldDK_out hpl h
      refine fin h1 fun w F ρ ev' hev => ?_
      obtain ⟨cells', q1, q2⟩ := h2 w F ρ ev' z.cells hev hsz.symm (by rw [hz]; exact dv_rep hT.ones)
      exact ⟨cells', q1, by have := RA.d (ρ := ρ) (RD.agg q2); simpa using this⟩
theorem does_makeFunc {fn : Fn} {first caps : Array Operand} {ev : Operand → AV} : Does P (.makeFunc fn first caps) ty L n ((Op.operands (.makeFunc fn first caps)).toList.map ev) e0 (.fn fn (first.toList.map ev) (caps.toList.map ev)) := does_val fun o w F ρ ev' ho _ hx => by
  have hops : (Op.operands (.makeFunc fn first caps)).toList = first.toList ++ caps.toList := by simp [Op.operands]
  rw [hops, List.map_append, List.map_append] at hx
  have sp : ∀ (xs ys : List AV) (us ts : List Value), us.length = xs.length → RAs w F ρ (xs ++ ys) (us ++ ts) → RAs w F ρ xs us ∧ RAs w F ρ ys ts := by
    intro xs
    induction xs with
    | nil => intro ys us ts h hx; have : us = [] := List.eq_nil_of_length_eq_zero h; subst this; exact ⟨.nil, hx⟩
    | cons x xs ih =>
      intro ys us ts h hx
      cases us with
      | nil => simp at h
      | cons u us =>
        cases hx with | cons h1 h2 =>
          obtain ⟨a, b⟩ := ih ys us ts (by simpa using h) h2
          exact ⟨.cons h1 a, b⟩
  obtain ⟨h1, h2⟩ := sp _ _ _ _ (by simp) hx
  refine ⟨.func fn (first.map ev') (caps.map ev'), by simp [execOp, ho, Instr.makeFunc], ?_⟩
  have := RA.fn (f := fn) h1 h2
  have e1 : ∀ (l : Array Operand), (l.toList.map ev').toArray = l.map ev' := fun l => by apply Array.ext'; simp
  rw [e1, e1] at this
  exact this
end
end Go.Proofs.YtpnbpcdmiiakcaaDoor
/- Regions and code in abstract values: the conditions, and that they suffice. No program is named here. -/
namespace Go.Proofs.YtpnbpcdmiiakcaaDoor
set_option linter.unusedSimpArgs false
set_option linter.unusedVariables false
open Go.RowKit
def callFK (P : Program) (E : Nat → Bool) (g : FuncId) (args : List AV) (L : List AObj) (K : Eff → AV → Prop) (Q : Prop) : Prop :=
  match E g with
  | true => lenNK L fun n => ∃ e r, CallOK P g args L n e r ∧ fRes r (K e)
  | false => Q
def pickK (c x y : AV) (K : Eff → AV → Prop) : Prop :=
  match c with
  | .d (.v (.bool b)) => (b = true → fAV x (K e0)) ∧ (b = false → fAV y (K e0))
  | _ => False
theorem pickK_out {P : Program} {L : List AObj} {ty n : Nat} {c x y : AV} {a b d : Operand} {K : Eff → AV → Prop} (h : pickK c x y K) : ∃ e r, K e r ∧ Does P (.pick a b d) ty L n [c, x, y] e r := by
  unfold pickK at h
  split at h
  · rename_i q
    cases q with
    | true =>
      refine ⟨_, _, fAV_iff.1 (h.1 rfl), does_val fun o w F ρ ev ho _ hx => ?_⟩
      obtain ⟨v1, v2, v3, e, h1, h2, h3⟩ := hx.three_out
      simp [Op.operands] at e
      have := h1.v_out
      subst this
      exact ⟨v2, by simp [execOp, ho, e.1, e.2.1, asBool], h2⟩
    | false =>
      refine ⟨_, _, fAV_iff.1 (h.2 rfl), does_val fun o w F ρ ev ho _ hx => ?_⟩
      obtain ⟨v1, v2, v3, e, h1, h2, h3⟩ := hx.three_out
      simp [Op.operands] at e
      have := h1.v_out
      subst this
      exact ⟨v3, by simp [execOp, ho, e.1, e.2.2, asBool], h3⟩
  · exact h.elim
def isMp (x : AV) : Bool := match x with | .mp _ => true | .rel _ _ => true | _ => false
def opK (P : Program) (T : TypeId → TI) (E : Nat → Bool) (op : Op) (ty : TypeId) (ev : Operand → AV) (L : List AObj) (K : Eff → AV → Prop) : Prop :=
  match op with
  | .move x => fAV (ev x) (K e0)
  | .assign x => fAV (ev x) (K e0)
  | .box t x => objK (T t).size (ev x) fun o => lenNK L fun n => K ⟨[], [], [o]⟩ (.ptr n 0)
  | .alloc t => zeroK (T t) fun o => lenNK L fun n => K ⟨[], [], [o]⟩ (.ptr n 0)
  | .load t a => loadK (T t) (ev a) L K
  | .store t a x => storeK (T t) (ev a) (ev x) L K
  | .nilCheck x => nilCheckK (ev x) K
  | .binOp b t x y t' => binK b (ev x) (ev y) (K e0) (otherK P (.binOp b t x y t') ty ev L K)
  | .convert src dst x => convK T src dst (ev x) K (otherK P (.convert src dst x) ty ev L K)
  | .buildSlice t len ps => buildSliceK T t len ps.toList ev L K
  | .build t ps => buildK T t ps.toList ev K
  | .makeFunc fn first caps => evsK ev first.toList fun xs => evsK ev caps.toList fun ys => K e0 (.fn fn xs ys)
  | .call { callee := .builtin .max, args := ⟨[a, b]⟩, argTypes := ts } => mmK true (ev a) (ev b) K (otherK P (.call { callee := .builtin .max, args := ⟨[a, b]⟩, argTypes := ts }) ty ev L K)
  | .call { callee := .builtin .min, args := ⟨[a, b]⟩, argTypes := ts } => mmK false (ev a) (ev b) K (otherK P (.call { callee := .builtin .min, args := ⟨[a, b]⟩, argTypes := ts }) ty ev L K)
  | .unOp u t x => unK u (ev x) (K e0) False
  | .pick c x y => pickK (ev c) (ev x) (ev y) K
  | .extract x i => extractK (ev x) i K
  | .field t x f => fieldK T t f (ev x) K
  | .fieldAddr t x f => fieldAddrK T t f (ev x) K
  | .indexAddr t x i => indexAddrK (T t) (ev x) (ev i) L K
  | .index t x i => indexK (T t) (T (T t).elem) (ev x) (ev i) K
  | .call { callee := .builtin .len, args := ⟨[a]⟩, argTypes := ⟨[t]⟩ } => match isMp (ev a) with
    | true => otherK P (.call { callee := .builtin .len, args := ⟨[a]⟩, argTypes := ⟨[t]⟩ }) ty ev L K
    | false => lenBK (T t) (ev a) L K
  | .call { callee := .value f, args := aas, argTypes := ats } => match ev f with
    | .fn (.func g) first caps => evsK ev aas.toList fun xs => appK xs caps fun l => appK first l fun l => callFK P E g l L K (otherK P (.call { callee := .value f, args := aas, argTypes := ats }) ty ev L K)
    | _ => False
  | op => otherK P op ty ev L K
/-- The program's functions that are entered by a call. -/
def entersB (P : Program) (g : FuncId) : Bool := match P.funcs[g]? with | some fn => fn.name != "runtime.NumGoroutine" && !fn.body.isNone | none => false
theorem run_enter {P : Program} {g : FuncId} (h : entersB P g = true) (args : Array Value) (w : World) : (callFunc g args).run P w = .ok (.enter g args) w := by
  unfold entersB at h
  cases hf : P.funcs[g]? with
  | none => rw [hf] at h; cases h
  | some fn =>
    rw [hf] at h
    simp at h
    have hb : fn.body.isNone = false := by have := h.2; cases hq : fn.body <;> simp_all
    simp only [callFunc, Sem.run_bind, run_program, Result.andThen_ok, hf, hb]
    simp [h.1]
section
variable {P : Program} {w w' : World} {F F' : Nat → Prop} {ρ ρ' : Nat → Option Value} {H : Hp} {L : List AObj} {ty : TypeId} {T : TypeId → TI} {E : Nat → Bool}
theorem callFK_out {g : FuncId} {args : List AV} {K : Eff → AV → Prop} {Q : Prop} (h : callFK P E g args L K Q) : (E g = true ∧ ∃ e r, K e r ∧ CallOK P g args L L.length e r) ∨ Q := by
  unfold callFK at h
  split at h
  · rename_i he
    obtain ⟨e, r, h1, h2⟩ := natK_iff.1 h
    exact .inl ⟨he, e, r, fRes_out h2, h1⟩
  · exact .inr h
theorem opK_out (hT : T = tiOf P) (hE : ∀ g, E g = true → entersB P g = true) {op : Op} {ev : Operand → AV} {K : Eff → AV → Prop} (h : opK P T E op ty ev L K) :
    ∃ e r, K e r ∧ Does P op ty L L.length (op.operands.toList.map ev) e r := by
  subst hT
  unfold opK at h
  split at h
  · exact ⟨_, _, fAV_iff.1 h, does_move _ _⟩
  · exact ⟨_, _, fAV_iff.1 h, does_assign _ _⟩
  · obtain ⟨o, h1, h2⟩ := objK_out h
    exact ⟨_, _, natK_iff.1 h1, does_box _ _ h2⟩
  · obtain ⟨o, z, i, h1, h2, h3, h4⟩ := zeroK_out h
    exact ⟨_, _, natK_iff.1 h1, does_alloc h2 h3 h4⟩
  · exact loadK_out h
  · exact storeK_out h
  · exact nilCheckK_out h
  · exact (binK_out h).elim (fun ⟨r, h1, h2⟩ => ⟨_, r, h1, h2⟩) otherK_out
  · exact (convK_out h).elim id otherK_out
  · exact buildSliceK_out h
  · exact buildK_out h
  · exact ⟨_, _, evsK_out (evsK_out h), does_makeFunc⟩
  · exact (mmK_out (mx := true) h).elim id otherK_out
  · exact (mmK_out (mx := false) h).elim id otherK_out
  · exact (unK_out h).elim (fun ⟨r, h1, h2⟩ => ⟨_, r, h1, h2⟩) False.elim
  · exact pickK_out h
  · exact extractK_out h
  · exact fieldK_out h
  · exact fieldAddrK_out h
  · exact indexAddrK_out h
  · exact indexK_out h
  · split at h
    · exact otherK_out h
    · exact lenBK_out h
  · rename_i f aas ats
    split at h
    · rename_i g first caps hf
      rcases callFK_out (appK_out (appK_out (evsK_out h))) with ⟨hg, e, r, hK, hC⟩ | h
      case inr => exact otherK_out h
      refine ⟨e, r, hK, fun o H F ρ w ev' ho _ En hrs hn hx => ?_⟩
      have hops : (Op.operands (.call { callee := .value f, args := aas, argTypes := ats })).toList = f :: aas.toList := by simp [Op.operands, Call.operands]
      rw [hops, List.map_cons, List.map_cons] at hx
      cases hx with | cons hfv hx =>
        rw [hf] at hfv
        generalize hvf : ev' f = vf at hfv
        cases hfv with | fn hfirst hcaps =>
          rename_i us vs
          have hrun : (execOp ev' o).run P w = .ok (.enter g (us ++ (aas.toList.map ev' ++ vs)).toArray) w := by
            have he := run_enter (hE g hg) (us ++ (aas.toList.map ev' ++ vs)).toArray w
            simp [execOp, ho, resolve, hvf, Deferred.ofValue, invoke]
            have e1 : (us.toArray ++ (Array.map ev' aas ++ vs.toArray)) = (us ++ (aas.toList.map ev' ++ vs)).toArray := by
              apply Array.ext'
              simp
            rw [e1]
            exact he
          rw [hrun]
          exact hC H F ρ w _ En hrs hn (hfirst.app (hx.app hcaps))
    · exact h.elim
  · exact otherK_out h
end
end Go.Proofs.YtpnbpcdmiiakcaaDoor
/- Several blocks that are known whole, in one fact. No program is named here. -/
namespace Go.Proofs.YtpnbpcdmiiakcaaDoor
set_option linter.unusedSimpArgs false
set_option linter.unusedVariables false
open Go.RowKit
def Blks (w : World) (l : List (Nat × TypeId × Array Value)) : Prop := (∀ (i g : Nat) (t : TypeId) (cs : Array Value), l[i]? = some (g, t, cs) → Blk w g t cs) ∧ ∀ (i j : Nat) (x y : Nat × TypeId × Array Value), l[i]? = some x → l[j]? = some y → x.1 = y.1 → i = j
section
variable {w w' : World} {l : List (Nat × TypeId × Array Value)}
theorem Blks.nil (w : World) : Blks w [] := ⟨fun i g t cs h => by simp at h, fun i j x y h => by simp at h⟩
theorem Blks.one {g : Nat} {t : TypeId} {cs : Array Value} (h : Blk w g t cs) : Blks w [(g, t, cs)] :=
  ⟨fun i g' t' cs' hi => by cases i <;> simp at hi; obtain ⟨rfl, rfl, rfl⟩ := hi; exact h, fun i j x y hi hj _ => by cases i <;> cases j <;> simp at hi hj; rfl⟩
theorem Blks.get (h : Blks w l) (i : Nat) {g : Nat} {t : TypeId} {cs : Array Value} (hi : l[i]? = some (g, t, cs)) : Blk w g t cs := h.1 i g t cs hi
theorem Blks.next (h : Blks w l) (hb : Below w.heap.size w w') : Blks w' l := ⟨fun i g t cs hi => (h.1 i g t cs hi).next hb, h.2⟩
theorem Blks.alloc (h : Blks w l) (o : Obj) : Blks (w.alloc o) l := ⟨fun i g t cs hi => (h.1 i g t cs hi).alloc o, h.2⟩
theorem Blks.drew (h : Blks w l) : Blks w.drew l := h
theorem Blks.new (h : Blks w l) (t : TypeId) (cs : Array Value) : Blks (w.alloc (.cells cs t)) ((w.heap.size, t, cs) :: l) := by
  refine ⟨fun i g t' cs' hi => ?_, fun i j x y hi hj he => ?_⟩
  · cases i with
    | zero => simp at hi; obtain ⟨rfl, rfl, rfl⟩ := hi; exact Blk.new _ _ _
    | succ i => exact (h.1 i g t' cs' (by simpa using hi)).alloc _
  · have lt : ∀ (k : Nat) (z : Nat × TypeId × Array Value), l[k]? = some z → z.1 < w.heap.size := fun k z hk => (h.1 k z.1 z.2.1 z.2.2 hk).lt
    cases i with
    | zero =>
      cases j with
      | zero => rfl
      | succ j => simp at hi hj; have := lt j y hj; subst hi; simp at he; omega
    | succ i =>
      cases j with
      | zero => simp at hi hj; have := lt i x hi; subst hj; simp at he; omega
      | succ j => exact congrArg Nat.succ (h.2 i j x y (by simpa using hi) (by simpa using hj) he)
theorem Blks.lt (h : Blks w l) (i : Nat) {g : Nat} {t : TypeId} {cs : Array Value} (hi : l[i]? = some (g, t, cs)) : g < w.heap.size := (h.get i hi).lt
theorem Blks.upd (h : Blks w l) (i : Nat) {g : Nat} {t : TypeId} {cs cs' : Array Value} (hi : l[i]? = some (g, t, cs)) (h1 : Blk w' g t cs') (h2 : ∀ k, k ≠ g → w'.heap[k]? = w.heap[k]?) : Blks w' (l.set i (g, t, cs')) := by
  have hil : i < l.length := (List.getElem?_eq_some_iff.1 hi).1
  have hfst : ∀ (k : Nat) (z : Nat × TypeId × Array Value), (l.set i (g, t, cs'))[k]? = some z → ∃ z', l[k]? = some z' ∧ z'.1 = z.1 := by
    intro k z hk
    rw [List.getElem?_set] at hk
    by_cases hik : i = k
    · subst hik; rw [if_pos rfl, if_pos hil] at hk; injection hk with hk; subst hk; exact ⟨_, hi, rfl⟩
    · rw [if_neg hik] at hk; exact ⟨z, hk, rfl⟩
  refine ⟨fun k g' t' c' hk => ?_, fun a b x y ha hb he => ?_⟩
  · rw [List.getElem?_set] at hk
    by_cases hik : i = k
    · subst hik; rw [if_pos rfl, if_pos hil] at hk; injection hk with hk; injection hk with e1 e2; injection e2 with e2 e3; subst e1; subst e2; subst e3; exact h1
    · rw [if_neg hik] at hk
      have hne : g' ≠ g := fun e => hik (h.2 i k _ _ hi hk e.symm)
      exact (h2 g' hne).trans (h.get k hk)
  · obtain ⟨x', hx, ex⟩ := hfst a x ha
    obtain ⟨y', hy, ey⟩ := hfst b y hb
    exact h.2 a b x' y' hx hy (by rw [ex, ey, he])
theorem Blks.row (h : Blks w l) (i : Nat) {g : Nat} {t : TypeId} {cs : Array Value} (hi : l[i]? = some (g, t, cs)) (cs' : Array Value) : Blks (w.setRow g cs') (l.set i (g, t, cs')) :=
  h.upd i hi ((h.get i hi).setRow cs') fun k hk => heap_setRow w g cs' k hk
theorem Blks.cell (h : Blks w l) (i : Nat) {g : Nat} {t : TypeId} {cs : Array Value} (hi : l[i]? = some (g, t, cs)) (k : Nat) (u : Value) : Blks (w.setCell ⟨g, k, none⟩ u) (l.set i (g, t, cs.setIfInBounds k u)) :=
  h.upd i hi ((h.get i hi).set_ k u) fun k' hk => Below.heap_setCell w _ u k' hk
theorem Blks.far (h : Blks w l) {p : Addr} (hp : ∀ (i g : Nat) (t : TypeId) (cs : Array Value), l[i]? = some (g, t, cs) → g ≠ p.block) (u : Value) : Blks (w.setCell p u) l :=
  ⟨fun i g t cs hi => (h.1 i g t cs hi).far (hp i g t cs hi) u, h.2⟩
theorem Blks.grown (h : Blks w l) {row : Option Nat} (hb : w.grownBy w' row) (hr : ∀ (i g : Nat) (t : TypeId) (cs : Array Value), l[i]? = some (g, t, cs) → some g ≠ row) : Blks w' l :=
  ⟨fun i g t cs hi => (h.1 i g t cs hi).grown hb (hr i g t cs hi), h.2⟩
end
theorem Blk.range {w : World} {g : Nat} {t : TypeId} {cs : Array Value} (h : Blk w g t cs) (l : List Value) (hl : cs = l.toArray) : w.rangeAt g 0 l := fun j v hv => by
  subst hl
  rw [Nat.zero_add, h.cell j]
  simpa using hv
/-- A goal that the walk's simp does not look into. -/
structure Paused (p : Prop) (f : p → Unit) : Prop where
  out : p
end Go.Proofs.YtpnbpcdmiiakcaaDoor
