/- Loads and addresses. No program is named here. -/
import Derived.Test.YtgidaifoiljgoaaVcE
namespace Go.Proofs.Ytgidaifoiljgoaa
set_option linter.unusedSimpArgs false
set_option linter.unusedVariables false
open Go.RowKit
def fO (o : AObj) (k : AObj → Prop) : Prop :=
  match o with
  | .dead => k .dead
  | .cells cs => k (.cells cs)
  | .row xs => k (.row xs)
  | .sl s rows => k (.sl s rows)
  | .obj p => k (.obj p)
theorem fO_iff {o : AObj} {k : AObj → Prop} : fO o k ↔ k o := by cases o <;> rfl
def getOK : List AObj → Nat → (AObj → Prop) → Prop
  | [], _, _ => False
  | o :: _, 0, k => fO o k
  | _ :: r, n + 1, k => getOK r n k
theorem getOK_out {k : AObj → Prop} : ∀ {xs : List AObj} {n : Nat}, getOK xs n k → ∃ x, xs[n]? = some x ∧ k x
  | [], _, h => h.elim
  | x :: _, 0, h => ⟨x, rfl, fO_iff.1 h⟩
  | _ :: r, n + 1, h => by simpa using getOK_out (xs := r) (n := n) h
section
variable {P : Program} {w w' : World} {F F' : Nat → Prop} {ρ ρ' : Nat → Option Value} {H : Hp} {L : List AObj} {ty : TypeId} {n : Nat}
/-! ### loads -/
/-- The run of a load, of cells that lie somewhere. -/
theorem run_load_one {t : TypeId} {ti : TI} (hti : tiOf P t = ti) (hk : ti.kind = .one ∨ ti.kind = .sli) {b o : Nat} {v : Value} (hc : w.cell? ⟨b, o, none⟩ = some v) : (Instr.loadAt t (.pointer (some ⟨b, o, none⟩))).run P w = .ok v w := by
  obtain ⟨i, d, z, hT, he⟩ := tiOf_known (P := P) (t := t) (by rw [hti]; rcases hk with h | h <;> rw [h] <;> simp)
  rw [hti] at he
  have hd : (isAgg t).run P w = .ok false w := by
    unfold isAgg
    rw [Sem.run_bind, run_underlying hT.und]
    cases d <;> first | rfl | (subst he; simp at hk)
  simp [Instr.loadAt, Instr.sureAddr, loadVar, hd, load, Sem.run, hc]
theorem run_load_agg {t : TypeId} {ti : TI} (hti : tiOf P t = ti) (hk : ti.kind = .st ∨ ti.kind = .arr) {b o : Nat} {vs : List Value} (hl : vs.length = ti.size) (hc : ∀ j (h : j < vs.length), w.cell? ⟨b, o + j, none⟩ = some vs[j]) :
    (Instr.loadAt t (.pointer (some ⟨b, o, none⟩))).run P w = .ok (.agg vs.toArray) w := by
  obtain ⟨i, d, z, hT, he⟩ := tiOf_known (P := P) (t := t) (by rw [hti]; rcases hk with h | h <;> rw [h] <;> simp)
  rw [hti] at he
  have hs : ti.size = i.size := by rw [he]; cases d <;> rfl
  refine run_loadAt_mid w b o t vs d (fun j v hv => ?_) hT.und ?_ (by rw [hT.info]; simp [hl, hs])
  · obtain ⟨hj, e⟩ := List.getElem?_eq_some_iff.1 hv
    rw [hc j hj, e]
  · cases d <;> first | rfl | (subst he; simp at hk)
/-- Where a pointer into a known object points, and what lies there. -/
theorem Env.cellsAt (E : Env F ρ H w) {i o : Nat} {ob : AObj} (hi : H i = some ob) (hl : ob.live = true) {v : Value} (hv : RA w F ρ (.ptr i o) v) :
    ∃ b, v = .pointer (some ⟨b, o, none⟩) ∧ ρ i = some (.pointer (some ⟨b, 0, none⟩)) ∧ ORep w F ρ (.pointer (some ⟨b, 0, none⟩)) ob ∧ ¬ F b := by
  cases hv with | ptr h =>
    rename_i b
    obtain ⟨hh, e1, e2, e3⟩ := E.rep i ob hi hl
    rw [h] at e1; injection e1 with e1; subst e1
    exact ⟨b, rfl, h, e2, (e3 b rfl).2⟩
theorem Env.slAt (E : Env F ρ H w) {i sz k f s : Nat} {rows : List (List D)} (hi : H i = some (.sl s rows)) {v : Value} (hv : RA w F ρ (.ep i sz k f) v) :
    ∃ g off m c, v = .pointer (some ⟨g, off + (k * sz + f), none⟩) ∧ ρ i = some (.slice (some ⟨g, off, none⟩) m c) ∧ ORep w F ρ (.slice (some ⟨g, off, none⟩) m c) (.sl s rows) ∧ ¬ F g := by
  cases hv with | ep h =>
    rename_i g off m c
    obtain ⟨hh, e1, e2, e3⟩ := E.rep i _ hi rfl
    rw [h] at e1; injection e1 with e1; subst e1
    exact ⟨g, off, m, c, rfl, h, e2, (e3 g rfl).2⟩
theorem flat_get {rows : List (List D)} {s : Nat} (hs : ∀ r ∈ rows, r.length = s) : ∀ {k : Nat} {r : List D}, rows[k]? = some r → rows.flatten.drop (k * s) = r ++ (rows.drop (k + 1)).flatten := by
  induction rows with
  | nil => intro k r h; simp at h
  | cons a rows ih =>
    intro k r h
    have ha : a.length = s := hs a (List.mem_cons_self ..)
    cases k with
    | zero => simp at h; subst h; simp
    | succ k =>
      have := ih (fun r hr => hs r (List.mem_cons_of_mem _ hr)) (k := k) (r := r) (by simpa using h)
      rw [List.flatten_cons, Nat.add_mul, Nat.one_mul, ← ha, Nat.add_comm, List.drop_append, ha]
      simp [ha, this]
/-- The cells of an element of an owned slice. -/
theorem sl_cells {s : Nat} {rows : List (List D)} {g off m c : Nat} (h : ORep w F ρ (.slice (some ⟨g, off, none⟩) m c) (.sl s rows)) {k : Nat} {r : List D} (hr : rows[k]? = some r) :
    ∃ vs, RDs w F r vs ∧ vs.length = s ∧ ∀ j (hj : j < vs.length), w.cell? ⟨g, off + (k * s + j), none⟩ = some vs[j] := by
  obtain ⟨us, how, hra, hs⟩ := h
  have hk : k < rows.length := (List.getElem?_eq_some_iff.1 hr).1
  have hrl : r.length = s := hs r (List.mem_of_getElem? hr)
  obtain ⟨g', off', cap, he, _, _, _, _, _, hx⟩ := how.open_ (by omega)
  simp only [Value.slice.injEq, Option.some.injEq, Addr.mk.injEq, and_true] at he
  obtain ⟨⟨rfl, rfl⟩, _, rfl⟩ := he
  have hd := hra.drop (k * s)
  rw [flat_get hs hr] at hd
  obtain ⟨vs, ts, e, h1, h2⟩ := hd.split
  have hvl := h1.length
  refine ⟨vs, h1, by omega, fun j hj => ?_⟩
  have hu : us[k * s + j]? = some vs[j] := by
    have : (us.drop (k * s))[j]? = some vs[j] := by rw [e, List.getElem?_append_left hj, List.getElem?_eq_getElem hj]
    simpa [List.getElem?_drop] using this
  obtain ⟨h3, h4⟩ := List.getElem?_eq_some_iff.1 hu
  rw [hx _ h3, h4]
/-- A read of data cells as a value of a type. -/
def aggDK (ti : TI) (xs : List D) (k : AV → Prop) : Prop :=
  match ti.kind with
  | .non => False
  | .one => getDK xs 0 fun y => k (.d y)
  | .sli => getDK xs 0 fun y => k (.d y)
  | _ => match bigB ti.size with
    | true => ∃ ys, xs.take ti.size = ys ∧ ys.length = ti.size ∧ k (.d (.agg ys))
    | false => takeK xs ti.size fun ys => k (.d (.agg ys))
theorem aggDK_out {t : TypeId} {xs : List D} {k : AV → Prop} (h : aggDK (tiOf P t) xs k) :
    ∃ r, k r ∧ ∀ w F ρ b o vs, RDs w F xs vs → (∀ j (hj : j < vs.length), w.cell? ⟨b, o + j, none⟩ = some vs[j]) → ∃ v, (Instr.loadAt t (.pointer (some ⟨b, o, none⟩))).run P w = .ok v w ∧ RA w F ρ r v := by
  have one : ((tiOf P t).kind = .one ∨ (tiOf P t).kind = .sli) → getDK xs 0 (fun y => k (.d y)) → ∃ r, k r ∧ ∀ w F ρ b o vs, RDs w F xs vs → (∀ j (hj : j < vs.length), w.cell? ⟨b, o + j, none⟩ = some vs[j]) → ∃ v, (Instr.loadAt t (.pointer (some ⟨b, o, none⟩))).run P w = .ok v w ∧ RA w F ρ r v := by
    intro hk h
    obtain ⟨y, hy, hky⟩ := getDK_out h
    refine ⟨_, hky, fun w F ρ b o vs hr hc => ?_⟩
    obtain ⟨v, hv, h1, _⟩ := hr.get hy
    obtain ⟨h2, h3⟩ := List.getElem?_eq_some_iff.1 hv
    have := hc 0 h2
    rw [h3] at this
    exact ⟨v, run_load_one rfl hk (by simpa using this), .d h1⟩
  have agg : ((tiOf P t).kind = .st ∨ (tiOf P t).kind = .arr) → (tiOf P t).size ≤ xs.length → k (.d (.agg (xs.take (tiOf P t).size))) → ∃ r, k r ∧ ∀ w F ρ b o vs, RDs w F xs vs → (∀ j (hj : j < vs.length), w.cell? ⟨b, o + j, none⟩ = some vs[j]) → ∃ v, (Instr.loadAt t (.pointer (some ⟨b, o, none⟩))).run P w = .ok v w ∧ RA w F ρ r v := by
    intro hk hl h
    refine ⟨_, h, fun w F ρ b o vs hr hc => ?_⟩
    have hvl := hr.length
    refine ⟨_, run_load_agg rfl hk (vs := vs.take (tiOf P t).size) (by simp; omega) (fun j hj => ?_), .d (.agg (hr.take _))⟩
    rw [List.getElem_take]
    exact hc j (by simp at hj; omega)
  unfold aggDK at h
  cases hk : (tiOf P t).kind with
  | non => rw [hk] at h; exact h.elim
  | one => rw [hk] at h; exact one (.inl hk) h
  | sli => rw [hk] at h; exact one (.inr hk) h
  | st =>
    rw [hk] at h
    simp only at h
    split at h
    · obtain ⟨ys, rfl, h2, h3⟩ := h; exact agg (.inl hk) (by simp at h2; omega) h3
    · obtain ⟨h1, h2⟩ := takeK_out h; exact agg (.inl hk) h1 h2
  | arr =>
    rw [hk] at h
    simp only at h
    split at h
    · obtain ⟨ys, rfl, h2, h3⟩ := h; exact agg (.inr hk) (by simp at h2; omega) h3
    · obtain ⟨h1, h2⟩ := takeK_out h; exact agg (.inr hk) h1 h2
/-- .. of cells that may hold pointers. -/
def aggAK (ti : TI) (xs : List AV) (k : AV → Prop) : Prop :=
  match ti.kind with
  | .non => False
  | .one => getK xs 0 k
  | .sli => getK xs 0 k
  | _ => takeK xs ti.size fun ys => mkAggK ys k
theorem aggAK_out {t : TypeId} {xs : List AV} {k : AV → Prop} (h : aggAK (tiOf P t) xs k) :
    ∃ r, k r ∧ ∀ w F ρ b o vs, RAs w F ρ xs vs → (∀ v ∈ vs, v.oneCell' = true) → (∀ j (hj : j < vs.length), w.cell? ⟨b, o + j, none⟩ = some vs[j]) → ∃ v, (Instr.loadAt t (.pointer (some ⟨b, o, none⟩))).run P w = .ok v w ∧ RA w F ρ r v := by
  have one : ((tiOf P t).kind = .one ∨ (tiOf P t).kind = .sli) → getK xs 0 k → ∃ r, k r ∧ ∀ w F ρ b o vs, RAs w F ρ xs vs → (∀ v ∈ vs, v.oneCell' = true) → (∀ j (hj : j < vs.length), w.cell? ⟨b, o + j, none⟩ = some vs[j]) → ∃ v, (Instr.loadAt t (.pointer (some ⟨b, o, none⟩))).run P w = .ok v w ∧ RA w F ρ r v := by
    intro hk h
    obtain ⟨y, hy, hky⟩ := getK_out h
    refine ⟨_, hky, fun w F ρ b o vs hr _ hc => ?_⟩
    obtain ⟨v, hv, h1⟩ := hr.get hy
    obtain ⟨h2, h3⟩ := List.getElem?_eq_some_iff.1 hv
    have := hc 0 h2
    rw [h3] at this
    exact ⟨v, run_load_one rfl hk (by simpa using this), h1⟩
  have agg : ((tiOf P t).kind = .st ∨ (tiOf P t).kind = .arr) → takeK xs (tiOf P t).size (fun ys => mkAggK ys k) → ∃ r, k r ∧ ∀ w F ρ b o vs, RAs w F ρ xs vs → (∀ v ∈ vs, v.oneCell' = true) → (∀ j (hj : j < vs.length), w.cell? ⟨b, o + j, none⟩ = some vs[j]) → ∃ v, (Instr.loadAt t (.pointer (some ⟨b, o, none⟩))).run P w = .ok v w ∧ RA w F ρ r v := by
    intro hk h
    obtain ⟨hl, h⟩ := takeK_out h
    obtain ⟨r, h1, h2⟩ := mkAggK_out h
    refine ⟨r, h1, fun w F ρ b o vs hr ho hc => ?_⟩
    have hvl := hr.length
    refine ⟨_, run_load_agg rfl hk (vs := vs.take (tiOf P t).size) (by simp; omega) (fun j hj => ?_), h2 w F ρ _ (hr.take _) fun v hv => ho v (List.mem_of_mem_take hv)⟩
    rw [List.getElem_take]
    exact hc j (by simp at hj; omega)
  unfold aggAK at h
  cases hk : (tiOf P t).kind with
  | non => rw [hk] at h; exact h.elim
  | one => rw [hk] at h; exact one (.inl hk) h
  | sli => rw [hk] at h; exact one (.inr hk) h
  | st => rw [hk] at h; exact agg (.inl hk) h
  | arr => rw [hk] at h; exact agg (.inr hk) h
/-- The cells from place o on, of an object that is data. -/
def fromK (big : Bool) (xs : List D) (o : Nat) (k : List D → Prop) : Prop :=
  match big with
  | true => ∃ ys, xs.drop o = ys ∧ k ys
  | false => dropK xs o k
theorem fromK_out {big : Bool} {xs : List D} {o : Nat} {k : List D → Prop} (h : fromK big xs o k) : k (xs.drop o) := by
  unfold fromK at h
  split at h
  · obtain ⟨ys, rfl, h⟩ := h; exact h
  · exact (dropK_out h).2
def loadK (ti : TI) (x : AV) (L : List AObj) (K : Eff → AV → Prop) : Prop :=
  match x with
  | .ptr i o => getOK L i fun ob => match ob with
    | .cells cs => dropK cs o fun l => aggAK ti l fun r => K ⟨[i], [], []⟩ r
    | .row xs => ∃ ys, xs.drop o = ys ∧ rowK ti ys fun r => K ⟨[i], [], []⟩ r
    | _ => False
  | .ep i sz m f => getOK L i fun ob => match ob with
    | .sl s rows => s = sz ∧ ∃ r, rows[m]? = some r ∧ dropK r f fun l => aggDK ti l fun r => K ⟨[i], [], []⟩ r
    | _ => False
  | .fp xs => aggDK ti xs fun r => K e0 r
  | _ => False
where rowK (ti : TI) (ys : List D) (k : AV → Prop) : Prop :=
  match ti.kind with
  | .one => ∃ y r, ys = y :: r ∧ fD y fun y => k (.d y)
  | .sli => ∃ y r, ys = y :: r ∧ fD y fun y => k (.d y)
  | _ => aggDK ti ys k
theorem rowK_out {ti : TI} {ys : List D} {k : AV → Prop} (h : loadK.rowK ti ys k) : aggDK ti ys k := by
  unfold loadK.rowK at h
  unfold aggDK
  split at h
  · rename_i hk; obtain ⟨y, r, rfl, h⟩ := h; rw [hk]; exact h
  · rename_i hk; obtain ⟨y, r, rfl, h⟩ := h; rw [hk]; exact h
  · exact h
theorem loadK_run {t : TypeId} {x : AV} {K : Eff → AV → Prop} (h : loadK (tiOf P t) x L K) : ∃ e r, K e r ∧ e.ws = [] ∧ e.news = [] ∧ ∀ (H : Hp) (F : Nat → Prop) (ρ : Nat → Option Value) (w : World) (v : Value), Env F ρ H w → (∀ i ∈ e.rs, H i = L[i]?) → RA w F ρ x v → ∃ u, (Instr.loadAt t v).run P w = .ok u w ∧ RA w F ρ r u := by
  unfold loadK at h
  have fin : ∀ {e : Eff} {r : AV}, e.ws = [] → e.news = [] → K e r → (∀ (H : Hp) (F : Nat → Prop) (ρ : Nat → Option Value) (w : World) (v : Value), Env F ρ H w → (∀ i ∈ e.rs, H i = L[i]?) → RA w F ρ x v → ∃ u, (Instr.loadAt t v).run P w = .ok u w ∧ RA w F ρ r u) → ∃ e r, K e r ∧ e.ws = [] ∧ e.news = [] ∧ ∀ (H : Hp) (F : Nat → Prop) (ρ : Nat → Option Value) (w : World) (v : Value), Env F ρ H w → (∀ i ∈ e.rs, H i = L[i]?) → RA w F ρ x v → ∃ u, (Instr.loadAt t v).run P w = .ok u w ∧ RA w F ρ r u :=
    fun h1 h2 h3 h4 => ⟨_, _, h3, h1, h2, h4⟩
  split at h
  · rename_i i o
    obtain ⟨ob, hob, h⟩ := getOK_out h
    split at h
    · rename_i cs
      obtain ⟨hle, h⟩ := dropK_out h
      obtain ⟨r, hK, hr⟩ := aggAK_out h
      refine fin rfl rfl hK fun H F ρ w v E hL hv => ?_
      have hi : H i = some (.cells cs) := by rw [hL i (by simp)]; exact hob
      obtain ⟨b, rfl, e1, ⟨b', t', vs, e2, hB, hra, h1⟩, hF⟩ := E.cellsAt hi rfl hv
      simp at e2; subst e2
      refine hr w F ρ b o (vs.toList.drop o) (hra.drop o) (fun v hv => h1 v (List.mem_of_mem_drop hv)) fun j hj => ?_
      rw [hB.cell]; simp at hj ⊢
    · rename_i xs
      obtain ⟨ys, rfl, h⟩ := h
      obtain ⟨r, hK, hr⟩ := aggDK_out (rowK_out h)
      refine fin rfl rfl hK fun H F ρ w v E hL hv => ?_
      have hi : H i = some (.row xs) := by rw [hL i (by simp)]; exact hob
      obtain ⟨b, rfl, e1, ⟨b', t', vs, e2, hB, hra⟩, hF⟩ := E.cellsAt hi rfl hv
      simp at e2; subst e2
      refine hr w F ρ b o (vs.toList.drop o) (hra.drop o) fun j hj => ?_
      rw [hB.cell]; simp at hj ⊢
    · exact h.elim
  · rename_i i sz m f
    obtain ⟨ob, hob, h⟩ := getOK_out h
    split at h
    · rename_i s rows
      obtain ⟨rfl, r0, hr0, h⟩ := h
      obtain ⟨hle, h⟩ := dropK_out h
      obtain ⟨r, hK, hr⟩ := aggDK_out h
      refine fin rfl rfl hK fun H F ρ w v E hL hv => ?_
      have hi : H i = some (.sl s rows) := by rw [hL i (by simp)]; exact hob
      obtain ⟨g, off, m', c, rfl, e1, hor, hF⟩ := E.slAt hi hv
      obtain ⟨vs, h1, h2, h3⟩ := sl_cells hor hr0
      refine hr w F ρ g (off + (m * s + f)) (vs.drop f) (h1.drop f) fun j hj => ?_
      have := h3 (f + j) (by simp at hj; omega)
      rw [List.getElem_drop, ← this]
      congr 2; omega
    · exact h.elim
  · rename_i xs
    obtain ⟨r, hK, hr⟩ := aggDK_out h
    refine fin rfl rfl hK fun H F ρ w v E hL hv => ?_
    cases hv with | fp hb h hc => exact hr w F ρ _ _ _ h hc
  · exact h.elim
theorem loadK_out {t : TypeId} {x : AV} {a : Operand} {K : Eff → AV → Prop} (h : loadK (tiOf P t) x L K) : ∃ e r, K e r ∧ Does P (.load t a) ty L n [x] e r := by
  obtain ⟨e, r, h3, h1, h2, h4⟩ := loadK_run h
  refine ⟨e, r, h3, fun op H F ρ w ev ho ht E hL hn hx => ?_⟩
  obtain ⟨v, ev', hv⟩ := hx.one_out
  simp [Op.operands] at ev'
  obtain ⟨u, hu, hr⟩ := h4 H F ρ w v E hL hv
  have hrun : (execOp ev op).run P w = .ok (.value u) w := by simp [execOp, ho, ev', hu]
  rw [hrun, h1, h2]
  exact Post.same E hr
end
end Go.Proofs.Ytgidaifoiljgoaa
