/- Stores and addresses. No program is named here. -/
import Derived.Test.YtgidaifoiljgoaaVcF
namespace Go.Proofs.Ytgidaifoiljgoaa
set_option linter.unusedSimpArgs false
set_option linter.unusedVariables false
open Go.RowKit
theorem sets_eq {α : Type} : ∀ (vs xs : List α) (n : Nat), n + vs.length ≤ xs.length → sets xs n vs = xs.take n ++ vs ++ xs.drop (n + vs.length)
  | [], xs, n, _ => by simp [sets]
  | v :: vs, xs, n, h => by
    simp at h
    rw [sets, sets_eq vs (xs.set n v) (n + 1) (by simp; omega)]
    rw [List.take_succ_eq_append_getElem (by simp; omega), List.getElem_set_self]
    rw [List.take_set_of_le (by omega), List.drop_set_of_lt (by omega)]
    simp only [List.append_assoc, List.singleton_append, List.cons_append, List.nil_append, List.length_cons]
    rw [show n + 1 + vs.length = n + (vs.length + 1) by omega]
theorem sets_whole {α : Type} {vs xs : List α} (h : vs.length = xs.length) : sets xs 0 vs = vs := by
  rw [sets_eq vs xs 0 (by omega)]
  simp [h]
section
variable {P : Program} {w w' : World} {F F' : Nat → Prop} {ρ ρ' : Nat → Option Value} {H : Hp} {L : List AObj} {ty : TypeId} {n : Nat}
theorem RAs.sets {ps : List AV} : ∀ {us : List Value} {xs : List AV} {vs : List Value} {o : Nat}, RAs w F ρ xs vs → RAs w F ρ ps us → RAs w F ρ (sets xs o ps) (sets vs o us) := by
  induction ps with
  | nil => intro us xs vs o h k; cases k; exact h
  | cons p ps ih => intro us xs vs o h k; cases k with | cons k kr => exact ih (h.set o k) kr
theorem RDs.sets {ps : List D} : ∀ {us : List Value} {xs : List D} {vs : List Value} {o : Nat}, RDs w F xs vs → RDs w F ps us → RDs w F (sets xs o ps) (sets vs o us) := by
  induction ps with
  | nil => intro us xs vs o h k; cases k; exact h
  | cons p ps ih => intro us xs vs o h k; cases k with | cons k k1 kr => exact ih (h.set o k k1) kr
theorem mem_sets {α : Type} {v : α} : ∀ {us xs : List α} {o : Nat}, v ∈ sets xs o us → v ∈ xs ∨ v ∈ us
  | [], _, _, h => .inl h
  | _ :: us, _, _, h => (mem_sets (us := us) h).elim (fun h => (List.mem_or_eq_of_mem_set h).elim .inl fun e => .inr (by simp [e])) fun h => .inr (List.mem_cons_of_mem _ h)
theorem Blk.sets {b : Nat} {t : TypeId} : ∀ {us : List Value} {w : World} {vs : Array Value} {o : Nat}, Blk w b t vs → Blk (w.setCells b o us) b t (sets vs.toList o us).toArray
  | [], w, vs, o, h => h
  | u :: us, w, vs, o, h => by
    have := (Blk.sets (us := us) (o := o + 1) (h.set_ o u))
    simpa [World.setCells, Go.Proofs.Ytgidaifoiljgoaa.sets] using this
theorem Ow.setc {g off cap size m lo : Nat} {e : TypeId} {xs : List Value} (h : Ow w lo e size (.slice (some ⟨g, off, none⟩) m cap) m xs) {k : Nat} (hk : k < xs.length) (u : Value) :
    Ow (w.setCell ⟨g, off + k, none⟩ u) lo e size (.slice (some ⟨g, off, none⟩) m cap) m (xs.set k u) := by
  have hl := h.1
  have hm : 0 < m := by rcases Nat.eq_zero_or_pos m with e | e; (subst e; simp at hl; rw [hl] at hk; simp at hk); exact e
  obtain ⟨g', off', cap', he, hlo, hlt, hnc, hcm, hroom, hx⟩ := h.open_ hm
  simp only [Value.slice.injEq, Option.some.injEq, Addr.mk.injEq, and_true, true_and] at he
  obtain ⟨⟨rfl, rfl⟩, rfl⟩ := he
  have hcs : m * size ≤ cap * size := Nat.mul_le_mul_right _ hnc
  have hc0 : (w.cell? ⟨g, off + k, none⟩).isSome = true := (hroom k (by omega)).1
  refine ⟨by rw [List.length_set]; exact hl, .inr (.inr ⟨g, off, cap, rfl, hlo, by simpa [World.setCell] using hlt, hnc, hcm, fun j hj => ?_, fun j hj => ?_⟩)⟩
  · refine ⟨?_, by rw [World.frozen?_setCell]; exact (hroom j hj).2⟩
    by_cases hjk : j = k
    · subst hjk; rw [World.cell?_setCell_same' _ _ _ hc0]; rfl
    · rw [World.cell?_setCell_other _ _ _ _ (by intro h; injection h with _ h2 _; omega)]; exact (hroom j hj).1
  · rw [List.length_set] at hj
    by_cases hjk : j = k
    · subst hjk; rw [World.cell?_setCell_same' _ _ _ hc0, List.getElem_set_self]
    · rw [World.cell?_setCell_other _ _ _ _ (by intro h; injection h with _ h2 _; omega), hx j hj, List.getElem_set_ne (by omega)]
theorem Ow.sets {g off cap size m lo : Nat} {e : TypeId} : ∀ {us : List Value} {w : World} {xs : List Value} {k : Nat}, Ow w lo e size (.slice (some ⟨g, off, none⟩) m cap) m xs → k + us.length ≤ xs.length →
    Ow (w.setCells g (off + k) us) lo e size (.slice (some ⟨g, off, none⟩) m cap) m (sets xs k us)
  | [], w, xs, k, h, _ => h
  | u :: us, w, xs, k, h, hk => by
    simp at hk
    have := Ow.sets (us := us) (k := k + 1) (h.setc (k := k) (by omega) u) (by simp; omega)
    exact this
theorem flat_set {s : Nat} : ∀ {rows : List (List D)} {k : Nat} {r : List D} {f : Nat} {y : D}, (∀ r ∈ rows, r.length = s) → rows[k]? = some r → f < s → (rows.set k (r.set f y)).flatten = rows.flatten.set (k * s + f) y
  | [], k, r, f, y, _, h, _ => by simp at h
  | a :: rows, 0, r, f, y, hs, h, hf => by
    simp at h; subst h
    have := hs a (List.mem_cons_self ..)
    simp
    rw [List.set_append_left _ _ (by omega)]
  | a :: rows, k + 1, r, f, y, hs, h, hf => by
    have ha := hs a (List.mem_cons_self ..)
    have := flat_set (fun r hr => hs r (List.mem_cons_of_mem _ hr)) (k := k) (r := r) (f := f) (y := y) (by simpa using h) hf
    simp only [List.set_cons_succ, List.flatten_cons, this]
    rw [List.set_append_right _ _ (by rw [ha, Nat.add_mul]; omega)]
    congr 2
    rw [ha, Nat.add_mul]; omega
theorem flat_sets {s : Nat} : ∀ {ys : List D} {rows : List (List D)} {k : Nat} {r : List D} {f : Nat}, (∀ r ∈ rows, r.length = s) → rows[k]? = some r → f + ys.length ≤ s → (rows.set k (sets r f ys)).flatten = sets rows.flatten (k * s + f) ys
  | [], rows, k, r, f, hs, h, hf => by
    obtain ⟨h1, h2⟩ := List.getElem?_eq_some_iff.1 h
    subst h2
    simp [sets]
  | y :: ys, rows, k, r, f, hs, h, hf => by
    simp at hf
    have h1 := (List.getElem?_eq_some_iff.1 h).1
    have hr := hs r (List.mem_of_getElem? h)
    have := flat_sets (ys := ys) (rows := rows.set k (r.set f y)) (k := k) (r := r.set f y) (f := f + 1) (fun q hq => (List.mem_or_eq_of_mem_set hq).elim (hs q) fun e => by rw [e]; simpa using hr) (by simp [h1]) (by omega)
    rw [List.set_set, flat_set hs h (by omega)] at this
    exact this
theorem run_store_any {t : TypeId} (hk : (tiOf P t).kind ≠ .non) {b o : Nat} {v : Value} (hl : v.cells.size = (tiOf P t).size) (h1 : ∀ u ∈ v.cells.toList, u.oneCell' = true) (ht : w.there b o v.cells.size) :
    (Instr.storeAt t (.pointer (some ⟨b, o, none⟩)) v).run P w = .ok () (w.setCells b o v.cells.toList) := by
  obtain ⟨i, d, z, hT, he⟩ := tiOf_known hk
  have hs : (tiOf P t).size = i.size := by rw [he]; cases d <;> rfl
  have := run_storeCells_cells (P := P) b o v.cells.toList 0 w (fun j hj => by simpa using (ht j (by simpa using hj)).1) (fun j hj => by simpa using (ht j (by simpa using hj)).2) h1
  simp only [Nat.add_zero] at this
  simp [Instr.storeAt, Instr.sureAddr, storeVar, sizeOf, typeInfo, hT.info, hl, hs, this]
/-- The data cells of a value. -/
def dataK (size : Nat) (x : AV) (k : List D → Prop) : Prop :=
  match x with
  | .d (.v u) => oneV u (size = 1 ∧ k [.v u])
  | .d (.sl s r) => size = 1 ∧ k [.sl s r]
  | .d (.agg ys) => ys.length = size ∧ k ys
  | _ => False
theorem dataK_out {size : Nat} {x : AV} {k : List D → Prop} (h : dataK size x k) : ∃ ys, k ys ∧ ys.length = size ∧ ∀ w F ρ v, RA w F ρ x v → RDs w F ys v.cells.toList := by
  unfold dataK at h
  split at h
  · obtain ⟨h1, h2, h3, h4⟩ := oneV_out h
    exact ⟨_, h4, h3.symm, fun w F ρ v hr => by have := hr.v_out; subst this; rw [h2]; exact .cons (.v _) h1 .nil⟩
  · exact ⟨_, h.2, h.1.symm, fun w F ρ v hr => by cases hr with | d hr => (have hr' := hr; cases hr with | sl a b c d e f => exact .cons hr' rfl .nil)⟩
  · exact ⟨_, h.2, h.1, fun w F ρ v hr => by cases hr with | d hr => cases hr with | agg hr => simpa [Value.cells] using hr⟩
  · exact h.elim
def nonK (ti : TI) (p : Prop) : Prop := match ti.kind with | .non => False | _ => p
theorem nonK_out {ti : TI} {p : Prop} (h : nonK ti p) : ti.kind ≠ .non ∧ p := by
  unfold nonK at h
  split at h
  · exact h.elim
  · rename_i hk; exact ⟨fun e => hk (by rw [e]), h⟩
def storeK (ti : TI) (x v : AV) (L : List AObj) (K : Eff → AV → Prop) : Prop :=
  nonK ti <| match x with
  | .ptr i o => getOK L i fun ob => match ob with
    | .cells cs => partsK ti.size v fun ps => lenK ps ti.size <| setsK cs o ps fun l => lenK l cs.length <| K ⟨[i], [(i, .cells l)], []⟩ .any
    | .row xs => dataK ti.size v fun ys => o + ys.length ≤ xs.length ∧ ∃ zs, sets xs o ys = zs ∧ K ⟨[i], [(i, .row zs)], []⟩ .any
    | _ => False
  | .ep i sz m f => getOK L i fun ob => match ob with
    | .sl s rows => s = sz ∧ dataK ti.size v fun ys => f + ys.length ≤ s ∧ ∃ r zs, rows[m]? = some r ∧ sets r f ys = zs ∧ K ⟨[i], [(i, .sl s (rows.set m zs))], []⟩ .any
    | _ => False
  | _ => False
theorem setsK_le {α : Type} {k : List α → Prop} {vs xs : List α} {n : Nat} (h : setsK xs n vs k) : vs = [] ∨ n + vs.length ≤ xs.length := (setsK_out h).elim .inr fun h => .inl h.1
theorem storeK_out {t : TypeId} {x v : AV} {a b : Operand} {K : Eff → AV → Prop} (h : storeK (tiOf P t) x v L K) : ∃ e r, K e r ∧ Does P (.store t a b) ty L n [x, v] e r := by
  replace h := nonK_out h
  obtain ⟨hk, h⟩ := h
  have fin : ∀ {i : Nat} {ob : AObj}, K ⟨[i], [(i, ob)], []⟩ .any → (∀ (H : Hp) (F : Nat → Prop) (ρ : Nat → Option Value) (w : World) (p u : Value), Env F ρ H w → (H i = L[i]?) → RA w F ρ x p → RA w F ρ v u →
      ∃ w', (Instr.storeAt t p u).run P w = .ok () w' ∧ Step F ρ H w F ρ (updF H i (some ob)) w' ∧ Env F ρ (updF H i (some ob)) w') → ∃ e r, K e r ∧ Does P (.store t a b) ty L n [x, v] e r := by
    intro i ob h1 h2
    refine ⟨_, _, h1, fun op H F ρ w ev ho ht E hL hn hx => ?_⟩
    obtain ⟨p, u, e', hp, hu⟩ := hx.two_out
    simp [Op.operands] at e'
    obtain ⟨w', hr, hs, he⟩ := h2 H F ρ w p u E (hL i (by simp)) hp hu
    have hrun : (execOp ev op).run P w = .ok .skip w' := by simp [execOp, ho, e'.1, e'.2, hr]
    rw [hrun]
    exact ⟨F, ρ, hs, Keep.refl _, he, .any _⟩
  split at h
  · rename_i i o
    obtain ⟨ob, hob, h⟩ := getOK_out h
    split at h
    · rename_i cs
      obtain ⟨ps, h, hps⟩ := partsK_out h
      obtain ⟨hpl, h⟩ := lenK_out h
      have hle := setsK_le h
      have h := (lenK_out (setsK_val h)).2
      refine fin h fun H F ρ w p u E hL hp hu => ?_
      have hi : H i = some (.cells cs) := by rw [hL]; exact hob
      obtain ⟨g, rfl, e1, ⟨b', t', vs, e2, hB, hra, h1⟩, hF⟩ := E.cellsAt hi rfl hp
      simp at e2; subst e2
      obtain ⟨hpu, hone⟩ := hps w F ρ u hu
      have hul := hpu.length
      have hvl := hra.length
      have hrun := run_store_any (P := P) (w := w) (b := g) (o := o) hk (v := u) (by simp at hul; omega) hone (fun j hj => by
        rw [hB.cell, hB.frozen]
        refine ⟨?_, rfl⟩
        simp at hul hvl ⊢
        have hp0 : ps = [] → ps.length = 0 := fun e => by rw [e]; rfl
        rcases hle with e | e
        · have := hp0 e; omega
        · omega)
      refine ⟨_, hrun, ?_⟩
      refine E.upd hi rfl e1 (setCells_grown g o u.cells.toList w) ⟨g, t', _, rfl, hB.sets, ?_⟩
      have hm : ∀ b, F b → (w.setCells g o u.cells.toList).heap[b]? = w.heap[b]? := fun b hb => setCells_heap g _ o w b fun e => hF (e ▸ hb)
      exact ⟨(hra.sets hpu).mono hm (fun _ h => h) (Keep.refl ρ), fun y hy => (mem_sets (by simpa using hy)).elim (h1 y) (hone y)⟩
    · rename_i xs
      obtain ⟨ys, ⟨hle, zs, hz, h⟩, hyl, hys⟩ := dataK_out h
      subst hz
      refine fin h fun H F ρ w p u E hL hp hu => ?_
      have hi : H i = some (.row xs) := by rw [hL]; exact hob
      obtain ⟨g, rfl, e1, ⟨b', t', vs, e2, hB, hra⟩, hF⟩ := E.cellsAt hi rfl hp
      simp at e2; subst e2
      have hpu := hys w F ρ u hu
      have hul := hpu.length
      have hvl := hra.length
      have hrun := run_store_any (P := P) (w := w) (b := g) (o := o) hk (v := u) (by simp at hul; omega) hpu.one (fun j hj => by
        rw [hB.cell, hB.frozen]
        refine ⟨?_, rfl⟩
        simp at hul hvl ⊢
        omega)
      refine ⟨_, hrun, ?_⟩
      refine E.upd hi rfl e1 (setCells_grown g o u.cells.toList w) ⟨g, t', _, rfl, hB.sets, ?_⟩
      have hm : ∀ b, F b → (w.setCells g o u.cells.toList).heap[b]? = w.heap[b]? := fun b hb => setCells_heap g _ o w b fun e => hF (e ▸ hb)
      exact (hra.sets hpu).mono hm (fun _ h => h)
    · exact h.elim
  · rename_i i sz m f
    obtain ⟨ob, hob, h⟩ := getOK_out h
    split at h
    · rename_i s rows
      obtain ⟨hsz, h3⟩ := h
      obtain ⟨ys, ⟨hle, r, zs, hr, hz, h4⟩, hyl, hys⟩ := dataK_out h3
      subst hz hsz
      refine fin h4 fun H F ρ w p u E hL hp hu => ?_
      have hi : H i = some (.sl s rows) := by rw [hL]; exact hob
      obtain ⟨g, off, m', c, rfl, e1, ⟨vs, how, hra, hs⟩, hF⟩ := E.slAt hi hp
      have hpu := hys w F ρ u hu
      have hul := hpu.length
      have hvl := hra.length
      have hml := (List.getElem?_eq_some_iff.1 hr).1
      have hfl : rows.flatten.length = rows.length * s := by rw [← hvl]; exact how.1
      have hms : m * s + s ≤ rows.length * s := by rw [← Nat.succ_mul]; exact Nat.mul_le_mul_right _ hml
      obtain ⟨A', c', he', hnc, hcm, _⟩ := how.form
      injection he' with h1 h2 h3
      subst h2; subst h3; subst h1
      have hrl : 0 < rows.length := by omega
      obtain ⟨g', off', cap, he, hlo, hlt, hnc, hcm, hroom, hx⟩ := how.open_ hrl
      simp only [Value.slice.injEq, Option.some.injEq, Addr.mk.injEq, and_true, true_and] at he
      obtain ⟨⟨rfl, rfl⟩, rfl⟩ := he
      have hcs : rows.length * s ≤ c * s := Nat.mul_le_mul_right _ hnc
      have hrun := run_store_any (P := P) (w := w) (b := g) (o := off + (m * s + f)) hk (v := u) (by simp at hul; omega) hpu.one (fun j hj => by
        rw [Nat.add_assoc]
        simp at hul
        exact hroom _ (by omega))
      refine ⟨_, hrun, ?_⟩
      refine E.upd hi rfl e1 (setCells_grown g _ u.cells.toList w) ?_
      have hm : ∀ b, F b → (w.setCells g (off + (m * s + f)) u.cells.toList).heap[b]? = w.heap[b]? := fun b hb => setCells_heap g _ _ w b fun e => hF (e ▸ hb)
      refine ⟨sets vs (m * s + f) u.cells.toList, ?_, ?_, fun q hq => ?_⟩
      · rw [List.length_set]
        exact how.sets (by simp at hul ⊢; omega)
      · rw [flat_sets hs hr (by omega)]
        exact (hra.sets hpu).mono hm (fun _ h => h)
      · rcases List.mem_or_eq_of_mem_set hq with e | e
        · exact hs q e
        · rw [e, length_sets]; exact hs r (List.mem_of_getElem? hr)
    · exact h.elim
  · exact h.elim
end
end Go.Proofs.Ytgidaifoiljgoaa
