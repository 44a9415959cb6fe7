/- Elements, tuples, lengths, literals. No program is named here. -/
import Derived.Test.YtgidaifoiljgoaaVcH
import Derived.Great.BuildSlice
namespace Go.Proofs.Ytgidaifoiljgoaa
set_option linter.unusedSimpArgs false
set_option linter.unusedVariables false
open Go.RowKit
section
variable {P : Program} {w w' : World} {F F' : Nat → Prop} {ρ ρ' : Nat → Option Value} {H : Hp} {L : List AObj} {ty : TypeId} {n : Nat}
theorem ti_sli {t : TypeId} (h : (tiOf P t).kind = .sli) : P.underlying t = some (.slice (tiOf P t).elem) ∧ P.cellsOf (tiOf P t).elem = (tiOf P t).esize ∧ P.bytesOf (tiOf P t).elem = (tiOf P t).ebytes := by
  obtain ⟨i, d, z, hT, he⟩ := tiOf_known (P := P) (t := t) (by rw [h]; simp)
  rw [he] at h ⊢
  cases d <;> try (cases h; done)
  exact ⟨hT.und, rfl, rfl⟩
theorem ti_arr {t : TypeId} (h : (tiOf P t).kind = .arr) : P.underlying t = some (.array (tiOf P t).len (tiOf P t).elem) ∧ P.cellsOf (tiOf P t).elem = (tiOf P t).esize ∧ P.bytesOf (tiOf P t).elem = (tiOf P t).ebytes := by
  obtain ⟨i, d, z, hT, he⟩ := tiOf_known (P := P) (t := t) (by rw [h]; simp)
  rw [he] at h ⊢
  cases d <;> try (cases h; done)
  exact ⟨hT.und, rfl, rfl⟩
theorem info_of_cells {e m : Nat} (h : P.cellsOf e = m) (hp : 0 < m) : ∃ i, P.info? e = some i ∧ i.size = m := by
  unfold Program.cellsOf at h
  cases hi : P.info? e with
  | none => simp [hi] at h; omega
  | some i => exact ⟨i, rfl, by simpa [hi] using h⟩
def intK (x : AV) (k : Int → Prop) : Prop := match x with | .d (.v (.int _ z)) => k z | _ => False
theorem intK_out {x : AV} {k : Int → Prop} (h : intK x k) : ∃ kd z, x = .d (.v (.int kd z)) ∧ k z := by
  unfold intK at h
  split at h
  · exact ⟨_, _, rfl, h⟩
  · exact h.elim
def indexAddrK (ti : TI) (x y : AV) (L : List AObj) (K : Eff → AV → Prop) : Prop :=
  intK y fun z => posK ti.esize <| match x with
  | .own i => match ti.kind with
    | .sli => getOK L i fun ob => match ob with
      | .sl s rows => eqK ti.esize s <| ∃ k : Nat, z = k ∧ k < rows.length ∧ K ⟨[i], [], []⟩ (.ep i s k 0)
      | _ => False
    | _ => False
  | .d (.sl s rows) => match ti.kind with
    | .sli => eqK ti.esize s <| ∃ (k : Nat) (r : List D), z = k ∧ rows[k]? = some r ∧ K e0 (.fp r)
    | _ => False
  | .ptr i o => match ti.kind with
    | .arr => ∃ k : Nat, z = k ∧ k < ti.len ∧ K e0 (.ptr i (o + k * ti.esize))
    | _ => False
  | .ep i sz m f => match ti.kind with
    | .arr => ∃ k : Nat, z = k ∧ k < ti.len ∧ K e0 (.ep i sz m (f + k * ti.esize))
    | _ => False
  | _ => False
theorem run_indexAt_sl {t : TypeId} (hk : (tiOf P t).kind = .sli) (hp : 0 < (tiOf P t).esize) {A : Addr} {m c k : Nat} {kd : IntKind} (hlt : k < m) : (Instr.indexAt t (.slice (some A) m c) (.int kd k)).run P w = .ok (.pointer (some (A.add (k * (tiOf P t).esize)))) w := by
  obtain ⟨h1, h2, _⟩ := ti_sli hk
  obtain ⟨i, h3, h4⟩ := info_of_cells h2 hp
  simp [Instr.indexAt, asIntOf, run_underlying h1, sizeOf, typeInfo, h3, h4]
  exact fun e => absurd e (by omega)
theorem run_indexAt_arr {t : TypeId} (hk : (tiOf P t).kind = .arr) (hp : 0 < (tiOf P t).esize) {b o k : Nat} {kd : IntKind} (hlt : k < (tiOf P t).len) : (Instr.indexAt t (.pointer (some ⟨b, o, none⟩)) (.int kd k)).run P w = .ok (.pointer (some ⟨b, o + k * (tiOf P t).esize, none⟩)) w := by
  obtain ⟨h1, h2, _⟩ := ti_arr hk
  obtain ⟨i, h3, h4⟩ := info_of_cells h2 hp
  simp [Instr.indexAt, asIntOf, run_underlying h1, sizeOf, typeInfo, h3, h4, Instr.sureAddr, Addr.add_lit]
  exact fun e => absurd e (by omega)
theorem indexAddrK_out {t : TypeId} {x y : AV} {a b : Operand} {K : Eff → AV → Prop} (h : indexAddrK (tiOf P t) x y L K) : ∃ e r, K e r ∧ Does P (.indexAddr t a b) ty L n [x, y] e r := by
  obtain ⟨kd, z, hy, hh⟩ := intK_out h
  clear h
  subst hy
  obtain ⟨hp, h⟩ := posK_out hh
  clear hh
  have fin : ∀ {e : Eff} {r : AV}, e.ws = [] → e.news = [] → K e r → (∀ (H : Hp) (F : Nat → Prop) (ρ : Nat → Option Value) (w : World) (v : Value), Env F ρ H w → (∀ i ∈ e.rs, H i = L[i]?) → RA w F ρ x v → ∃ u, (Instr.indexAt t v (.int kd z)).run P w = .ok u w ∧ RA w F ρ r u) → ∃ e r, K e r ∧ Does P (.indexAddr t a b) ty L n [x, .d (.v (.int kd z))] e r := by
    intro e r h1 h2 h3 h4
    refine ⟨e, r, h3, fun op H F ρ w ev ho ht E hL hn hx => ?_⟩
    obtain ⟨v, u0, ev', hv, hu⟩ := hx.two_out
    have := hu.v_out
    subst this
    simp [Op.operands] at ev'
    obtain ⟨u, hu, hr⟩ := h4 H F ρ w v E hL hv
    have hrun : (execOp ev op).run P w = .ok (.value u) w := by simp [execOp, ho, ev'.1, ev'.2, hu]
    rw [hrun, h1, h2]
    exact Post.same E hr
  split at h
  · rename_i i
    split at h
    · rename_i hk
      obtain ⟨ob, hob, h⟩ := getOK_out h
      split at h
      · rename_i s rows
        obtain ⟨hs, k, rfl, hlt, hK⟩ := eqK_out h
        refine fin rfl rfl hK fun H F ρ w v E hL hv => ?_
        have hi : H i = some (.sl s rows) := by rw [hL i (by simp)]; exact hob
        cases hv with | own hv =>
          obtain ⟨hh, e1, ⟨vs, how, _⟩, _⟩ := E.rep i _ hi rfl
          rw [hv] at e1; injection e1 with e1; subst e1
          obtain ⟨g, off, cap, he, _⟩ := how.open_ (by omega)
          injection he with q1 q2 q3
          subst q1 q2
          refine ⟨_, run_indexAt_sl hk hp hlt, ?_⟩
          rw [Addr.add_lit, hs]
          exact .ep hv
      · exact h.elim
    · exact h.elim
  · split at h
    · rename_i s rows _ hk
      obtain ⟨hs, k, r, rfl, hr, hK⟩ := eqK_out h
      refine fin rfl rfl hK fun H F ρ w v E hL hv => ?_
      cases hv with | d hv => cases hv with | sl hn hs' h1 h2 hf hm =>
        have hlt := (List.getElem?_eq_some_iff.1 hr).1
        obtain ⟨b, off, rfl, hb, hc⟩ := hm (by omega)
        refine ⟨_, run_indexAt_sl hk hp (by omega), ?_⟩
        rw [Addr.add_lit, hs]
        have hd := hf.drop (k * s)
        rw [flat_get hs' hr] at hd
        obtain ⟨vs, ts, e, g1, g2⟩ := hd.split
        refine .fp hb g1 fun j hj => ?_
        rename_i cs
        have hu : cs[k * s + j]? = some vs[j] := by
          have : (cs.drop (k * s))[j]? = some vs[j] := by rw [e, List.getElem?_append_left hj, List.getElem?_eq_getElem hj]
          simpa [List.getElem?_drop] using this
        obtain ⟨q1, q2⟩ := List.getElem?_eq_some_iff.1 hu
        have := hc _ q1
        rw [q2] at this
        rw [Nat.add_assoc]; exact this
    · exact h.elim
  · split at h
    · rename_i hk
      obtain ⟨k, rfl, hlt, hK⟩ := h
      refine fin rfl rfl hK fun H F ρ w v E hL hv => ?_
      cases hv with | ptr hv => exact ⟨_, run_indexAt_arr hk hp hlt, .ptr hv⟩
    · exact h.elim
  · split at h
    · rename_i hk
      obtain ⟨k, rfl, hlt, hK⟩ := h
      refine fin rfl rfl hK fun H F ρ w v E hL hv => ?_
      cases hv with | ep hv => exact ⟨_, run_indexAt_arr hk hp hlt, by rw [Nat.add_assoc, Nat.add_assoc]; exact .ep hv⟩
    · exact h.elim
  · exact h.elim
/-! ### elements of values -/
def oneTK (ti : TI) (p : Prop) : Prop := match ti.kind with | .one => p | .sli => p | _ => False
theorem oneTK_out {ti : TI} {p : Prop} (h : oneTK ti p) : (ti.kind = .one ∨ ti.kind = .sli) ∧ p := by
  unfold oneTK at h
  split at h
  · rename_i hk; exact ⟨.inl hk, h⟩
  · rename_i hk; exact ⟨.inr hk, h⟩
  · exact h.elim
def indexK (ti ei : TI) (x y : AV) (K : Eff → AV → Prop) : Prop :=
  intK y fun z => match x with
  | .d (.agg ds) => match ti.kind with
    | .arr => oneTK ei <| eqK ti.esize 1 <| ∃ (k : Nat) (r : D), z = k ∧ k < ti.len ∧ ds[k]? = some r ∧ K e0 (.d r)
    | _ => False
  | .d (.v (.string s)) => eqK ti.tag 3 <| ∃ (k : Nat) (h : k < s.size), z = k ∧ K e0 (.d (.v (.int .u8 (s[k].toNat : Int))))
  | _ => False
theorem ti_tag {t : TypeId} (h : (tiOf P t).tag = 3) : P.underlying t = some .string := by
  obtain ⟨i, d, z, hT, he⟩ := tiOf_known (P := P) (t := t) (fun e => by rw [ti_non e] at h; cases h)
  rw [he] at h
  cases d <;> first | exact hT.und | (cases h; done) | (rename_i k; cases k <;> cases h)
theorem indexK_out {t : TypeId} {x y : AV} {a b : Operand} {K : Eff → AV → Prop} (h : indexK (tiOf P t) (tiOf P (tiOf P t).elem) x y K) : ∃ e r, K e r ∧ Does P (.index t a b) ty L n [x, y] e r := by
  obtain ⟨kd, z, hy, hh⟩ := intK_out h
  clear h
  subst hy
  have h := hh
  clear hh
  have fin : ∀ {r : AV}, K e0 r → (∀ (w : World) (F : Nat → Prop) (ρ : Nat → Option Value) (v : Value), RA w F ρ x v → ∃ u, (Instr.index t v (.int kd z)).run P w = .ok u w ∧ RA w F ρ r u) → ∃ e r, K e r ∧ Does P (.index t a b) ty L n [x, .d (.v (.int kd z))] e r := by
    intro r h3 h4
    refine ⟨_, r, h3, does_val fun op w F ρ ev ho _ hx => ?_⟩
    obtain ⟨v, u0, ev', hv, hu⟩ := hx.two_out
    have := hu.v_out
    subst this
    simp [Op.operands] at ev'
    obtain ⟨u, hu, hr⟩ := h4 w F ρ v hv
    exact ⟨u, by simp [execOp, ho, ev'.1, ev'.2, hu], hr⟩
  split at h
  · split at h
    · rename_i ds _ hk
      obtain ⟨hone, h0⟩ := oneTK_out h
      obtain ⟨h1, k, r, rfl, hlt, hr, hK⟩ := eqK_out h0
      obtain ⟨g1, g2, _⟩ := ti_arr hk
      rw [h1] at g2
      obtain ⟨i, h3, h4⟩ := info_of_cells g2 (by omega)
      refine fin hK fun w F ρ v hv => ?_
      cases hv with | d hv => cases hv with | agg hv =>
        rename_i cs
        obtain ⟨u, hu, hru, _⟩ := hv.get hr
        refine ⟨u, ?_, .d hru⟩
        have hp : (part (tiOf P t).elem cs.toArray k).run P w = .ok u w := run_part (by rcases hone with e | e <;> rw [e] <;> simp) (fun _ => hu) (fun e => by rcases hone with e1 | e1 <;> rcases e with e | e <;> rw [e1] at e <;> cases e)
        simp [Instr.index, asIntOf, run_underlying g1, sizeOf, typeInfo, h3, h4, hp]
        exact fun e => absurd e (by omega)
    · exact h.elim
  · rename_i s _
    obtain ⟨h1, k, hlt, rfl, hK⟩ := eqK_out h
    refine fin hK fun w F ρ v hv => ?_
    have := hv.v_out
    subst this
    refine ⟨_, ?_, .d (.v _)⟩
    simp [Instr.index, asIntOf, run_underlying (ti_tag h1), hlt]
  · exact h.elim
/-! ### tuples, checks, lengths -/
def extractK (x : AV) (i : Nat) (K : Eff → AV → Prop) : Prop := match x with | .tup xs => getK xs i (K e0) | _ => False
theorem extractK_out {x : AV} {i : Nat} {a : Operand} {K : Eff → AV → Prop} (h : extractK x i K) : ∃ e r, K e r ∧ Does P (.extract a i) ty L n [x] e r := by
  unfold extractK at h
  split at h
  · obtain ⟨y, hy, hK⟩ := getK_out h
    refine ⟨_, _, hK, does_val fun op w F ρ ev ho _ hx => ?_⟩
    obtain ⟨v, e', hv⟩ := hx.one_out
    simp [Op.operands] at e'
    cases hv with | tup hv =>
      obtain ⟨u, hu, hr⟩ := hv.get hy
      exact ⟨u, by simp [execOp, ho, e', Instr.extract, hu], hr⟩
  · exact h.elim
def nilCheckK (x : AV) (K : Eff → AV → Prop) : Prop :=
  match x with
  | .ptr i o => K e0 (.ptr i o)
  | .ep i s m f => K e0 (.ep i s m f)
  | .fp xs => K e0 (.fp xs)
  | .fn (.func g) a b => K e0 (.fn (.func g) a b)
  | _ => False
theorem nilCheckK_out {x : AV} {a : Operand} {K : Eff → AV → Prop} (h : nilCheckK x K) : ∃ e r, K e r ∧ Does P (.nilCheck a) ty L n [x] e r := by
  have fin : ∀ {r : AV}, K e0 r → (∀ (w : World) (F : Nat → Prop) (ρ : Nat → Option Value) (v : Value), RA w F ρ r v → (∃ b, v = .pointer (some b)) ∨ ∃ g p q, v = .func (.func g) p q) → ∃ e r', K e r' ∧ Does P (.nilCheck a) ty L n [r] e r' := by
    intro r hK hr
    refine ⟨_, _, hK, does_val fun op w F ρ ev ho _ hx => ?_⟩
    obtain ⟨v, e', hv⟩ := hx.one_out
    simp [Op.operands] at e'
    refine ⟨v, ?_, hv⟩
    rcases hr w F ρ v hv with ⟨b, rfl⟩ | ⟨g, p, q, rfl⟩ <;> simp [execOp, ho, e']
  unfold nilCheckK at h
  split at h
  · exact fin h fun w F ρ v hv => by cases hv; exact .inl ⟨_, rfl⟩
  · exact fin h fun w F ρ v hv => by cases hv; exact .inl ⟨_, rfl⟩
  · exact fin h fun w F ρ v hv => by cases hv; exact .inl ⟨_, rfl⟩
  · exact fin h fun w F ρ v hv => by cases hv; exact .inr ⟨_, _, _, rfl⟩
  · exact h.elim
def lenBK (ti : TI) (x : AV) (L : List AObj) (K : Eff → AV → Prop) : Prop :=
  match x with
  | .own i => match ti.kind with
    | .sli => getOK L i fun ob => match ob with
      | .sl _ rows => K ⟨[i], [], []⟩ (.d (.v (.int .i64 rows.length)))
      | _ => False
    | _ => False
  | .d (.sl _ rows) => match ti.kind with
    | .sli => K e0 (.d (.v (.int .i64 rows.length)))
    | _ => False
  | .d (.v (.slice _ m _)) => match ti.kind with
    | .sli => K e0 (.d (.v (.int .i64 m)))
    | _ => False
  | .d (.v (.string s)) => eqK ti.tag 3 <| K e0 (.d (.v (.int .i64 s.size)))
  | _ => False
theorem lenBK_out {t : TypeId} {x : AV} {a : Operand} {K : Eff → AV → Prop} (h : lenBK (tiOf P t) x L K) : ∃ e r, K e r ∧ Does P (.call { callee := .builtin .len, args := #[a], argTypes := #[t] }) ty L n [x] e r := by
  have fin : ∀ {e : Eff} {m : Nat}, e.ws = [] → e.news = [] → K e (.d (.v (.int .i64 m))) → (∀ (H : Hp) (F : Nat → Prop) (ρ : Nat → Option Value) (w : World) (v : Value), Env F ρ H w → (∀ i ∈ e.rs, H i = L[i]?) → RA w F ρ x v → ((tiOf P t).kind = .sli ∧ ∃ A c, v = .slice A m c) ∨ ((tiOf P t).tag = 3 ∧ ∃ s, v = .string s ∧ s.size = m)) → ∃ e r, K e r ∧ Does P (.call { callee := .builtin .len, args := #[a], argTypes := #[t] }) ty L n [x] e r := by
    intro e m h1 h2 h3 h4
    refine ⟨e, _, h3, fun op H F ρ w ev ho ht E hL hn hx => ?_⟩
    have hops : (Op.operands (.call { callee := .builtin .len, args := #[a], argTypes := #[t] })).toList = [a] := by simp [Op.operands, Call.operands]
    rw [hops] at hx
    obtain ⟨v, ev', hv⟩ := hx.one_out
    simp at ev'
    have hrun : (execOp ev op).run P w = .ok (.value (.int .i64 m)) w := by
      rcases h4 H F ρ w v E hL hv with ⟨hk, A, c, rfl⟩ | ⟨hk, s, rfl, rfl⟩
      · simp [execOp, ho, resolve, invoke, builtin, ev', Builtin.len_, run_underlying (ti_sli hk).1, goInt]
      · simp [execOp, ho, resolve, invoke, builtin, ev', Builtin.len_, run_underlying (ti_tag hk), goInt]
    rw [hrun, h1, h2]
    exact Post.same E (.d (.v _))
  unfold lenBK at h
  split at h
  · rename_i i
    split at h
    · rename_i hk
      obtain ⟨ob, hob, h⟩ := getOK_out h
      split at h
      · rename_i s rows
        refine fin rfl rfl h fun H F ρ w v E hL hv => ?_
        have hi : H i = some (.sl s rows) := by rw [hL i (by simp)]; exact hob
        cases hv with | own hv =>
          obtain ⟨hh, e1, ⟨vs, how, _⟩, _⟩ := E.rep i _ hi rfl
          rw [hv] at e1; injection e1 with e1; subst e1
          obtain ⟨A', c', he, _⟩ := how.form
          injection he with q1 q2 q3
          exact .inl ⟨hk, _, _, by rw [q2]⟩
      · exact h.elim
    · exact h.elim
  · split at h
    · rename_i hk
      refine fin rfl rfl h fun H F ρ w v E hL hv => ?_
      cases hv with | d hv => cases hv with | sl hn _ _ _ _ _ => exact .inl ⟨hk, _, _, by rw [hn]⟩
    · exact h.elim
  · split at h
    · rename_i hk
      refine fin rfl rfl h fun H F ρ w v E hL hv => ?_
      have := hv.v_out
      exact .inl ⟨hk, _, _, this⟩
    · exact h.elim
  · obtain ⟨hk, h⟩ := eqK_out h
    refine fin rfl rfl h fun H F ρ w v E hL hv => ?_
    have := hv.v_out
    exact .inr ⟨hk, _, this, rfl⟩
  · exact h.elim
end
end Go.Proofs.Ytgidaifoiljgoaa
