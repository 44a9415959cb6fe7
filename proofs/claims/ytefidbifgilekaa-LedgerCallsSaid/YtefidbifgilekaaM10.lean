/- Parts LgU1, LgV, Laid of the proof, put together. -/
import Derived.Test.YtefidbifgilekaaM9
import Derived.Test.YtefidbifgilekaaChecked
import Derived.Test.YtefidbifgilekaaRows
/- ledger: two ledgers' rows, counts of rows; in plain Lean. -/
namespace Go.Proofs.Ytefidbifgilekaa
set_option linter.unusedSimpArgs false
set_option linter.unusedVariables false
open Go.RowKit Go.Sort
set_option maxRecDepth 100000
theorem within_any {α : Type} [DecidableEq α] : ∀ (l k : List α), l.Nodup → (∀ x ∈ l, x ∈ k) → l.length ≤ k.length
  | [], _, _, _ => Nat.zero_le _
  | x :: l, k, hn, h => by
    have h1 := List.nodup_cons.1 hn
    have hx := h x (List.mem_cons_self ..)
    have := within_any l (k.erase x) h1.2 fun y hy => by
      have hne : y ≠ x := fun e => h1.1 (by rw [← e]; exact hy)
      exact (List.mem_erase_of_ne hne).2 (h y (List.mem_cons_of_mem _ hy))
    rw [List.length_erase_of_mem hx] at this
    have : 0 < k.length := List.length_pos_of_mem hx
    simp only [List.length_cons]; omega
theorem rows_perm {m : Led} {c : Nat} (h : Fr m c) : (rowsL m).Perm (m.map fo) := by
  unfold rowsL idsL
  refine ((sorted_perm cmpI (m.map (·.1))).map _).trans ?_
  rw [List.map_map]
  refine List.Perm.of_eq (List.map_congr_left fun p hp => ?_)
  show (p.1, verL m p.1) = (p.1, p.2.1)
  have := find_mem h hp
  unfold verL; rw [this]; rfl
theorem rows_mem {m : Led} {c : Nat} (h : Fr m c) {f : FactP} : f ∈ rowsL m ↔ ∃ p ∈ m, fo p = f := by
  rw [(rows_perm h).mem_iff, List.mem_map]
theorem eqMB_rows {m m2 : Led} {c c2 : Nat} (h : Fr m c) (h2 : Fr m2 c2) : eqMB m m2 = decide (rowsL m = rowsL m2) := by
  by_cases hr : rowsL m = rowsL m2
  · rw [decide_eq_true hr]
    refine eqMB_good (by rw [← rowsL_len m, hr, rowsL_len]) fun p hp => ?_
    have h3 : fo p ∈ rowsL m := (rows_mem h).2 ⟨p, hp, rfl⟩
    rw [hr] at h3
    obtain ⟨q, hq, e⟩ := (rows_mem h2).1 h3
    have h4 := find_mem h2 hq
    unfold fo at e
    injection e with e1 e2
    rw [← e1, ← e2]; exact h4
  · rw [decide_eq_false hr]
    cases he : eqMB m m2 with
    | false => rfl
    | true =>
      exfalso
      unfold eqMB at he
      rw [Bool.and_eq_true] at he
      have hl : m.length = m2.length := by simpa using he.1
      have hall : ∀ p ∈ m, findX m2 p.1 = some p.2.1 := fun p hp => by
        have := List.all_eq_true.1 he.2 p hp
        simpa using this
      refine hr ?_
      have hsub : ∀ x ∈ m.map (·.1), x ∈ m2.map (·.1) := fun x hx => by
        obtain ⟨p, hp, rfl⟩ := List.mem_map.1 hx
        refine hasX_iff.1 ?_
        unfold hasX; rw [hall p hp]; rfl
      have hp : (m.map (·.1)).Perm (m2.map (·.1)) := by
        refine (List.perm_ext_iff_of_nodup h.ks h2.ks).2 fun a => ⟨hsub a, fun ha => ?_⟩
        refine Classical.byContradiction fun hn => ?_
        have := within_any (a :: m.map (·.1)) (m2.map (·.1)) (List.nodup_cons.2 ⟨hn, h.ks⟩) fun x hx => by
          rcases List.mem_cons.1 hx with e | e
          · rw [e]; exact ha
          · exact hsub x e
        simp at this; omega
      have hids : idsL m = idsL m2 := sorted_of_perm swoI totI hp
      unfold rowsL
      rw [← hids]
      refine List.map_congr_left fun x hx => ?_
      obtain ⟨p, hp, rfl⟩ := List.mem_map.1 (ids_keys.1 hx)
      have h3 := hall p hp
      have h4 := find_mem h hp
      unfold verL
      rw [h3, h4]
/-- Rows of a reason among the first k. -/
def cntK (m : Led) (k : Nat) (r : Int) : Int := ((rowsL m).take k).countP fun f => decide (f.2.1 = r)
theorem cntK_succ {m : Led} {k : Nat} {f : FactP} (h : (rowsL m)[k]? = some f) (r : Int) : cntK m (k + 1) r = cntK m k r + if f.2.1 = r then 1 else 0 := by
  unfold cntK
  rw [List.take_add_one, h, List.countP_append]
  by_cases e : f.2.1 = r <;> simp [e]
theorem cntK_le (m : Led) (k : Nat) (r : Int) : 0 ≤ cntK m k r ∧ cntK m k r ≤ m.length := by
  unfold cntK
  have h1 : ((rowsL m).take k).countP (fun f => decide (f.2.1 = r)) ≤ ((rowsL m).take k).length := List.countP_le_length
  rw [List.length_take, rowsL_len] at h1
  omega
theorem cntK_all {m : Led} {c : Nat} (h : Fr m c) (r : Int) : cntK m m.length r = cntR m r := by
  unfold cntK cntR
  rw [List.take_of_length_le (by rw [rowsL_len]; exact Nat.le_refl _), (rows_perm h).countP_eq, List.countP_map]
  rfl
theorem rows_in {m : Led} {k : Nat} {x : Id3} {v : Ver} (h : (rowsL m)[k]? = some (x, v)) : (idsL m)[k]? = some x ∧ verL m x = v := by
  unfold rowsL at h
  rw [List.getElem?_map] at h
  cases e : (idsL m)[k]? with
  | none => rw [e] at h; cases h
  | some y =>
    rw [e] at h
    have h : (y, verL m y) = (x, v) := Option.some.inj h
    injection h with h1 h2
    subst h1
    exact ⟨rfl, h2⟩
theorem inK_pre (m : Led) (z : Int) (k j : Nat) : inK m z k <+: inK m z (k + j) := by
  unfold inK
  obtain ⟨t, ht⟩ : (idsL m).take k <+: (idsL m).take (k + j) := List.take_prefix_take_left (Nat.le_add_right k j)
  rw [← ht, List.filter_append]
  exact List.prefix_append _ _
theorem inK_get {m : Led} {z : Int} {k : Nat} {x : Id3} (hk : k < m.length) (h : (idsL m)[k]? = some x) (hv : verL m x = (0, z)) : (inK m z m.length)[(inK m z k).length]? = some x := by
  obtain ⟨j, hj⟩ : ∃ j, m.length = k + 1 + j := ⟨m.length - (k + 1), by omega⟩
  obtain ⟨t, ht⟩ := inK_pre m z (k + 1) j
  rw [hj, ← ht, inK_succ h, if_pos hv]
  simp
theorem rows_ver {m : Led} {c : Nat} (h : Fr m c) (ho : okV m) {k : Nat} {x : Id3} {v : Ver} (hk : (rowsL m)[k]? = some (x, v)) : 0 ≤ v.1 ∧ v.1 ≤ 6 := by
  obtain ⟨p, hp, e⟩ := (rows_mem h).1 (List.mem_of_getElem? hk)
  have := ho p hp
  unfold fo at e
  injection e with e1 e2
  rwa [e2] at this
end Go.Proofs.Ytefidbifgilekaa
/- LedgerCalls, its law: every row of facts is answered as the document says, and leaves the verdicts that it says. -/
namespace Go.Proofs.Ytefidbifgilekaa
set_option linter.unusedSimpArgs false
set_option linter.unusedVariables false
set_option linter.unusedSectionVars false
open Go.RowKit Go.Sort
set_option maxRecDepth 100000
set_option maxHeartbeats 8000000 in
theorem calls_sat (l o : List FactP) (win : Int) (hw : in64 win) : Sat Try.prog 3 [.d (.sl 5 (l.map factR)), .d (.sl 5 (o.map factR)), iA win] [] (bA true) [] := by
  have hm : (l.map factR).length = l.length := List.length_map _
  have hmo : (o.map factR).length = o.length := List.length_map _
  by_cases hg : l.length ≤ 60 ∧ o.length ≤ 60
  · obtain ⟨hlen, hleno⟩ := hg
    refine sat_of_vc (T := tiOf Try.prog) (E := E0) Try.func3 rfl rfl hE0 hm0 rfl ?_
    conv => whnf
    repeat (any_goals (first
      | exact True.intro
      | (refine And.intro (fun _ => ?_) tf; conv => whnf)
      | (refine And.intro ft (fun _ => ?_); conv => whnf)
      | (refine And.intro (by kernel_rfl) ?_; conv => whnf)
      | (refine And.intro (by decide) ?_; conv => whnf)
      | (refine And.intro (fun _ => ?_) (fun h => absurd h (by decide)); conv => whnf)
      | (refine And.intro (fun h => absurd h (by decide)) (fun _ => ?_); conv => whnf)
      | (refine And.intro (fun _ => ?_) (fun _ => ?_) <;> conv => whnf)
      | (refine ⟨_, _, aliveL_sat.pu rfl rfl, ?_⟩; conv => whnf)))
    all_goals try (exfalso; simp only [decide_eq_true_eq, decide_eq_false_iff_not, Bool.not_eq_true', Bool.not_eq_false', Bool.not_eq_true, Bool.not_eq_false, beq_iff_eq, bne_iff_ne, beq_eq_false_iff_ne, bne_eq_false_iff_eq, ne_eq, Decidable.not_not] at *; first | omega | contradiction | (simp_all; done) | (simp_all; omega))
    all_goals try (refine Or.inl ?_; conv => whnf)
    repeat (any_goals (first
      | exact True.intro
      | (refine And.intro (fun _ => ?_) tf; conv => whnf)
      | (refine And.intro ft (fun _ => ?_); conv => whnf)
      | (refine And.intro (by kernel_rfl) ?_; conv => whnf)
      | (refine And.intro (by decide) ?_; conv => whnf)
      | (refine And.intro (fun _ => ?_) (fun h => absurd h (by decide)); conv => whnf)
      | (refine And.intro (fun h => absurd h (by decide)) (fun _ => ?_); conv => whnf)
      | (refine And.intro (fun _ => ?_) (fun _ => ?_) <;> conv => whnf)
      | (refine ⟨_, _, aliveL_sat.pu rfl rfl, ?_⟩; conv => whnf)))
    all_goals try (exfalso; simp only [decide_eq_true_eq, decide_eq_false_iff_not, Bool.not_eq_true', Bool.not_eq_false', Bool.not_eq_true, Bool.not_eq_false, beq_iff_eq, bne_iff_ne, beq_eq_false_iff_ne, bne_eq_false_iff_eq, ne_eq, Decidable.not_not] at *; first | omega | contradiction | (simp_all; done) | (simp_all; omega))
    all_goals try (refine Or.inl ?_; conv => whnf)
    repeat (any_goals (first
      | exact True.intro
      | (refine And.intro (fun _ => ?_) tf; conv => whnf)
      | (refine And.intro ft (fun _ => ?_); conv => whnf)
      | (refine And.intro (by kernel_rfl) ?_; conv => whnf)
      | (refine And.intro (by decide) ?_; conv => whnf)
      | (refine And.intro (fun _ => ?_) (fun h => absurd h (by decide)); conv => whnf)
      | (refine And.intro (fun h => absurd h (by decide)) (fun _ => ?_); conv => whnf)
      | (refine And.intro (fun _ => ?_) (fun _ => ?_) <;> conv => whnf)
      | (refine ⟨_, _, new_sat.nw rfl, ?_⟩; conv => whnf)
      | (refine ⟨_, _, eqP (by kernel_rfl), ?_⟩; conv => whnf)))
    all_goals try (exfalso; simp only [decide_eq_true_eq, decide_eq_false_iff_not, Bool.not_eq_true', Bool.not_eq_false', Bool.not_eq_true, Bool.not_eq_false, beq_iff_eq, bne_iff_ne, beq_eq_false_iff_ne, bne_eq_false_iff_eq, ne_eq, Decidable.not_not] at *; first | omega | contradiction | (simp_all; done) | (simp_all; omega))
    all_goals try (refine Or.inl ?_; conv => whnf)
    repeat (any_goals (first
      | exact True.intro
      | (refine And.intro (fun _ => ?_) tf; conv => whnf)
      | (refine And.intro ft (fun _ => ?_); conv => whnf)
      | (refine And.intro (by kernel_rfl) ?_; conv => whnf)
      | (refine And.intro (by decide) ?_; conv => whnf)
      | (refine And.intro (fun _ => ?_) (fun h => absurd h (by decide)); conv => whnf)
      | (refine And.intro (fun h => absurd h (by decide)) (fun _ => ?_); conv => whnf)
      | (refine And.intro (fun _ => ?_) (fun _ => ?_) <;> conv => whnf)
      | (refine ⟨_, _, new_sat.nw rfl, ?_⟩; conv => whnf)
      | (refine ⟨_, _, eqP (by kernel_rfl), ?_⟩; conv => whnf)))
    all_goals try (exfalso; simp only [decide_eq_true_eq, decide_eq_false_iff_not, Bool.not_eq_true', Bool.not_eq_false', Bool.not_eq_true, Bool.not_eq_false, beq_iff_eq, bne_iff_ne, beq_eq_false_iff_ne, bne_eq_false_iff_eq, ne_eq, Decidable.not_not] at *; first | omega | contradiction | (simp_all; done) | (simp_all; omega))
    refine Or.inr ⟨Unit, fun _ => True, fun _ => ([(8, .ptr 2 0), (7, .ptr 0 0), (2, iA win), (1, .d (.sl 5 (o.map factR)))], [.cells [.mp 1], mapO eI eV (madeM l).1 (madeM l).2, .cells [.own 3], .sl 5 ((rowsL (madeM l).1).map factR)]), ?_, fun _ _ => ?_⟩
    · conv => whnf
      repeat (any_goals (first
        | exact True.intro
        | (refine And.intro (fun _ => ?_) tf; conv => whnf)
        | (refine And.intro ft (fun _ => ?_); conv => whnf)
        | (refine And.intro (by kernel_rfl) ?_; conv => whnf)
        | (refine And.intro (by decide) ?_; conv => whnf)
        | (refine And.intro (fun _ => ?_) (fun h => absurd h (by decide)); conv => whnf)
        | (refine And.intro (fun h => absurd h (by decide)) (fun _ => ?_); conv => whnf)
        | (refine And.intro (fun _ => ?_) (fun _ => ?_) <;> conv => whnf)))
      have hr0 : (rowsL []).map factR = [] := by unfold rowsL idsL sorted; simp
      refine ⟨Nat × (Led × Nat), fun y => y.1 ≤ l.length ∧ y.2 = madeM (l.take y.1), fun y => ([(9, iA y.1), (8, .ptr 2 0), (7, .ptr 0 0), (2, iA win), (1, .d (.sl 5 (o.map factR))), (0, .d (.sl 5 (l.map factR)))], [.cells [.mp 1], mapO eI eV y.2.1 y.2.2, .cells [.own 3], .sl 5 ((rowsL y.2.1).map factR)]), fun y => l.length - y.1, ⟨(0, ([], 0)), ⟨Nat.zero_le _, rfl⟩, ?_⟩, ?_⟩
      · refine (show Weak 0 _ _ [(9, iA 0), (8, .ptr 2 0), (7, .ptr 0 0), (2, iA win), (1, .d (.sl 5 (o.map factR))), (0, .d (.sl 5 (l.map factR)))] [.cells [.mp 1], mapO eI eV [] 0, .cells [.own 3], .sl 5 ((rowsL []).map factR)] from ?_)
        rw [hr0]
        all_goals refine ⟨[], ?_⟩
        repeat (any_goals (first | exact True.intro | exact rfl | with_reducible_and_instances rfl | exact (by kernel_rfl) | refine And.intro ?_ ?_))
        all_goals conv => whnf
      rintro ⟨k, s⟩ ⟨hk, hs⟩
      replace hk : k ≤ l.length := hk
      replace hs : s = madeM (l.take k) := hs
      by_cases hlt : k < l.length
      · have hx : l[k]? = some l[k] := List.getElem?_eq_getElem hlt
        generalize l[k] = f at hx
        obtain ⟨⟨a, b, d⟩, r, z⟩ := f
        have hst := made_take_succ hx
        have hok := made_ok (l.take k)
        rw [← hs] at hst hok
        unfold stepM at hst
        simp only at hst
        have hsl : s.1.length ≤ 60 := by
          have h1 := hok.ln
          rw [List.length_take] at h1
          omega
        obtain ⟨m, c⟩ := s
        simp only at hst hsl
        clear hs
        have hrl : (rowsL m).length = m.length := rowsL_len m
        have nt := note_sat m c a b d r z
        have of := ofF_sat a b d r z
        rcases noteR_cases m c a b d (r, z) with ⟨e, hbad⟩ | ⟨hgood, o1, ho, he⟩ | ⟨hgood, hn, e⟩
        · rw [e] at nt hst
          have rn := noteRef_bad (R := rowsL m) hbad
          have os := of_sat m c a b d
          have ag := agree_sat hok.fr (show m.length ≤ 1000000 by omega)
          have fd := find_sat (rowsL m) (by omega) a b d
          cases hF : findX m (a, b, d) with
          | none =>
            rw [hF] at os
            rw [rows_not hF] at fd
            conv => whnf
            repeat (any_goals (first
              | exact True.intro
              | (refine ⟨k, _, rfl, map_get hx, ?_⟩; conv => whnf)
              | (refine Or.inl ?_; conv => whnf)
              | (refine And.intro (fun _ => ?_) tf; conv => whnf)
              | (refine And.intro ft (fun _ => ?_); conv => whnf)
              | (refine And.intro (by kernel_rfl) ?_; conv => whnf)
              | (refine And.intro (by decide) ?_; conv => whnf)
              | (refine And.intro (fun _ => ?_) (fun h => absurd h (by decide)); conv => whnf)
              | (refine And.intro (fun h => absurd h (by decide)) (fun _ => ?_); conv => whnf)
              | (refine And.intro (fun _ => ?_) (fun _ => ?_) <;> conv => whnf)
              | (refine ⟨_, _, nt.at2 0 1 rfl rfl rfl rfl rfl, ?_⟩; conv => whnf)
              | (refine ⟨_, _, of.pu rfl rfl, ?_⟩; conv => whnf)
              | (refine ⟨_, _, rn.at2 2 3 rfl rfl rfl rfl rfl, ?_⟩; conv => whnf)
              | (refine ⟨_, _, os.at2 0 1 rfl rfl rfl rfl rfl, ?_⟩; conv => whnf)
              | (refine ⟨_, _, neB (by kernel_rfl), ?_⟩; conv => whnf)
              | (refine ⟨_, _, neS (by kernel_rfl), ?_⟩; conv => whnf)
              | (refine ⟨_, _, ag.at4 0 1 2 3 rfl rfl rfl rfl rfl rfl rfl, ?_⟩; conv => whnf)
              | (refine ⟨_, _, fd.at2 2 3 rfl rfl rfl rfl rfl, ?_⟩; conv => whnf)))
            all_goals try (exfalso; simp only [decide_eq_true_eq, decide_eq_false_iff_not, Bool.not_eq_true', Bool.not_eq_false', Bool.not_eq_true, Bool.not_eq_false, beq_iff_eq, bne_iff_ne, beq_eq_false_iff_ne, bne_eq_false_iff_eq, ne_eq, Decidable.not_not] at *; first | omega | contradiction | (simp_all; done) | (simp_all; omega))
            refine ⟨(k + 1, (m, c)), ⟨hlt, hst.symm⟩, show l.length - (k + 1) < l.length - k by omega, ?_⟩
            all_goals refine ⟨[], ?_⟩
            repeat (any_goals (first | exact True.intro | exact rfl | with_reducible_and_instances rfl | exact (by kernel_rfl) | refine And.intro ?_ ?_))
            all_goals conv => whnf
            all_goals exact wk1 (by omega)
          | some o1 =>
            obtain ⟨o1, o2⟩ := o1
            rw [hF] at os
            obtain ⟨i, hi, hg⟩ := rows_at hF
            rw [hi] at fd
            have hil : i < ((rowsL m).map factR).length := by rw [List.length_map]; exact (List.getElem?_eq_some_iff.1 hg).1
            conv => whnf
            repeat (any_goals (first
              | exact True.intro
              | (refine ⟨k, _, rfl, map_get hx, ?_⟩; conv => whnf)
              | (refine ⟨i, rfl, hil, ?_⟩; conv => whnf)
              | (refine ⟨_, map_get hg, ?_⟩; conv => whnf)
              | (refine Or.inl ?_; conv => whnf)
              | (refine And.intro (fun _ => ?_) tf; conv => whnf)
              | (refine And.intro ft (fun _ => ?_); conv => whnf)
              | (refine And.intro (by kernel_rfl) ?_; conv => whnf)
              | (refine And.intro (by decide) ?_; conv => whnf)
              | (refine And.intro (fun _ => ?_) (fun h => absurd h (by decide)); conv => whnf)
              | (refine And.intro (fun h => absurd h (by decide)) (fun _ => ?_); conv => whnf)
              | (refine And.intro (fun _ => ?_) (fun _ => ?_) <;> conv => whnf)
              | (refine ⟨_, _, nt.at2 0 1 rfl rfl rfl rfl rfl, ?_⟩; conv => whnf)
              | (refine ⟨_, _, of.pu rfl rfl, ?_⟩; conv => whnf)
              | (refine ⟨_, _, rn.at2 2 3 rfl rfl rfl rfl rfl, ?_⟩; conv => whnf)
              | (refine ⟨_, _, os.at2 0 1 rfl rfl rfl rfl rfl, ?_⟩; conv => whnf)
              | (refine ⟨_, _, neB (by kernel_rfl), ?_⟩; conv => whnf)
              | (refine ⟨_, _, neS (by kernel_rfl), ?_⟩; conv => whnf)
              | (refine ⟨_, _, ag.at4 0 1 2 3 rfl rfl rfl rfl rfl rfl rfl, ?_⟩; conv => whnf)
              | (refine ⟨_, _, fd.at2 2 3 rfl rfl rfl rfl rfl, ?_⟩; conv => whnf)))
            all_goals try (exfalso; simp only [decide_eq_true_eq, decide_eq_false_iff_not, Bool.not_eq_true', Bool.not_eq_false', Bool.not_eq_true, Bool.not_eq_false, beq_iff_eq, bne_iff_ne, beq_eq_false_iff_ne, bne_eq_false_iff_eq, ne_eq, Decidable.not_not] at *; first | omega | contradiction | (simp_all; done) | (simp_all; omega))
            refine ⟨(k + 1, (m, c)), ⟨hlt, hst.symm⟩, show l.length - (k + 1) < l.length - k by omega, ?_⟩
            all_goals refine ⟨[], ?_⟩
            repeat (any_goals (first | exact True.intro | exact rfl | with_reducible_and_instances rfl | exact (by kernel_rfl) | refine And.intro ?_ ?_))
            all_goals conv => whnf
            all_goals exact wk1 (by omega)
        · obtain ⟨o1, o2⟩ := o1
          have os := of_sat m c a b d
          have ag := agree_sat hok.fr (show m.length ≤ 1000000 by omega)
          have fd := find_sat (rowsL m) (by omega) a b d
          rw [ho] at os
          obtain ⟨i, hi, hg⟩ := rows_at ho
          rw [hi] at fd
          have hil : i < ((rowsL m).map factR).length := by rw [List.length_map]; exact (List.getElem?_eq_some_iff.1 hg).1
          have rn := noteRef_old (R := rowsL m) (r := r) (z := z) (by omega) hgood hi hg
          rcases he with ⟨h1, e⟩ | ⟨h1, e⟩
          · rw [e] at nt hst
            rw [if_pos (by rw [h1])] at rn
            conv => whnf
            repeat (any_goals (first
              | exact True.intro
              | (refine ⟨k, _, rfl, map_get hx, ?_⟩; conv => whnf)
              | (refine ⟨i, rfl, hil, ?_⟩; conv => whnf)
              | (refine ⟨_, map_get hg, ?_⟩; conv => whnf)
              | (refine Or.inl ?_; conv => whnf)
              | (refine And.intro (fun _ => ?_) tf; conv => whnf)
              | (refine And.intro ft (fun _ => ?_); conv => whnf)
              | (refine And.intro (by kernel_rfl) ?_; conv => whnf)
              | (refine And.intro (by decide) ?_; conv => whnf)
              | (refine And.intro (fun _ => ?_) (fun h => absurd h (by decide)); conv => whnf)
              | (refine And.intro (fun h => absurd h (by decide)) (fun _ => ?_); conv => whnf)
              | (refine And.intro (fun _ => ?_) (fun _ => ?_) <;> conv => whnf)
              | (refine ⟨_, _, nt.at2 0 1 rfl rfl rfl rfl rfl, ?_⟩; conv => whnf)
              | (refine ⟨_, _, of.pu rfl rfl, ?_⟩; conv => whnf)
              | (refine ⟨_, _, rn.at2 2 3 rfl rfl rfl rfl rfl, ?_⟩; conv => whnf)
              | (refine ⟨_, _, os.at2 0 1 rfl rfl rfl rfl rfl, ?_⟩; conv => whnf)
              | (refine ⟨_, _, neB (by kernel_rfl), ?_⟩; conv => whnf)
              | (refine ⟨_, _, neS (by kernel_rfl), ?_⟩; conv => whnf)
              | (refine ⟨_, _, ag.at4 0 1 2 3 rfl rfl rfl rfl rfl rfl rfl, ?_⟩; conv => whnf)
              | (refine ⟨_, _, fd.at2 2 3 rfl rfl rfl rfl rfl, ?_⟩; conv => whnf)))
            all_goals try (exfalso; simp only [decide_eq_true_eq, decide_eq_false_iff_not, Bool.not_eq_true', Bool.not_eq_false', Bool.not_eq_true, Bool.not_eq_false, beq_iff_eq, bne_iff_ne, beq_eq_false_iff_ne, bne_eq_false_iff_eq, ne_eq, Decidable.not_not] at *; first | omega | contradiction | (simp_all; done) | (simp_all; omega))
            refine ⟨(k + 1, (m, c)), ⟨hlt, hst.symm⟩, show l.length - (k + 1) < l.length - k by omega, ?_⟩
            all_goals refine ⟨[], ?_⟩
            repeat (any_goals (first | exact True.intro | exact rfl | with_reducible_and_instances rfl | exact (by kernel_rfl) | refine And.intro ?_ ?_))
            all_goals conv => whnf
            all_goals exact wk1 (by omega)
          · rw [e] at nt hst
            rw [if_neg (fun q => h1 (congrArg Prod.snd q))] at rn
            conv => whnf
            repeat (any_goals (first
              | exact True.intro
              | (refine ⟨k, _, rfl, map_get hx, ?_⟩; conv => whnf)
              | (refine ⟨i, rfl, hil, ?_⟩; conv => whnf)
              | (refine ⟨_, map_get hg, ?_⟩; conv => whnf)
              | (refine Or.inl ?_; conv => whnf)
              | (refine And.intro (fun _ => ?_) tf; conv => whnf)
              | (refine And.intro ft (fun _ => ?_); conv => whnf)
              | (refine And.intro (by kernel_rfl) ?_; conv => whnf)
              | (refine And.intro (by decide) ?_; conv => whnf)
              | (refine And.intro (fun _ => ?_) (fun h => absurd h (by decide)); conv => whnf)
              | (refine And.intro (fun h => absurd h (by decide)) (fun _ => ?_); conv => whnf)
              | (refine And.intro (fun _ => ?_) (fun _ => ?_) <;> conv => whnf)
              | (refine ⟨_, _, nt.at2 0 1 rfl rfl rfl rfl rfl, ?_⟩; conv => whnf)
              | (refine ⟨_, _, of.pu rfl rfl, ?_⟩; conv => whnf)
              | (refine ⟨_, _, rn.at2 2 3 rfl rfl rfl rfl rfl, ?_⟩; conv => whnf)
              | (refine ⟨_, _, os.at2 0 1 rfl rfl rfl rfl rfl, ?_⟩; conv => whnf)
              | (refine ⟨_, _, neB (by kernel_rfl), ?_⟩; conv => whnf)
              | (refine ⟨_, _, neS (by kernel_rfl), ?_⟩; conv => whnf)
              | (refine ⟨_, _, ag.at4 0 1 2 3 rfl rfl rfl rfl rfl rfl rfl, ?_⟩; conv => whnf)
              | (refine ⟨_, _, fd.at2 2 3 rfl rfl rfl rfl rfl, ?_⟩; conv => whnf)))
            all_goals try (exfalso; simp only [decide_eq_true_eq, decide_eq_false_iff_not, Bool.not_eq_true', Bool.not_eq_false', Bool.not_eq_true, Bool.not_eq_false, beq_iff_eq, bne_iff_ne, beq_eq_false_iff_ne, bne_eq_false_iff_eq, ne_eq, Decidable.not_not] at *; first | omega | contradiction | (simp_all; done) | (simp_all; omega))
            refine ⟨(k + 1, (m, c)), ⟨hlt, hst.symm⟩, show l.length - (k + 1) < l.length - k by omega, ?_⟩
            all_goals refine ⟨[], ?_⟩
            repeat (any_goals (first | exact True.intro | exact rfl | with_reducible_and_instances rfl | exact (by kernel_rfl) | refine And.intro ?_ ?_))
            all_goals conv => whnf
            all_goals exact wk1 (by omega)
        · rw [e] at nt hst
          have hok2 := hok.note a b d (r, z)
          rw [e] at hok2
          have rn := noteRef_new (R := rowsL m) (r := r) (z := z) (by omega) hgood (rows_not hn)
          have hrn : rowsL (m ++ [((a, b, d), (r, z), c)]) = insR (rowsL m) ((a, b, d), (r, z)) := rows_new hok hn
          rw [← hrn] at rn
          have hf2 := findX_app (v := (r, z)) (c := c) hn
          have hl2 : (m ++ [((a, b, d), (r, z), c)]).length ≤ 61 := by simp; omega
          have hrl2 := rowsL_len (m ++ [((a, b, d), (r, z), c)])
          have os := of_sat (m ++ [((a, b, d), (r, z), c)]) (c + 1) a b d
          rw [hf2] at os
          have ag := agree_sat hok2.fr (Nat.le_trans hl2 (by decide))
          obtain ⟨i, hi, hg⟩ := rows_at hf2
          have fd := find_sat (rowsL (m ++ [((a, b, d), (r, z), c)])) (by omega) a b d
          rw [hi] at fd
          have hil : i < ((rowsL (m ++ [((a, b, d), (r, z), c)])).map factR).length := by rw [List.length_map]; exact (List.getElem?_eq_some_iff.1 hg).1
          clear hrn hn hok hok2 hf2
          conv => whnf
          repeat (any_goals (first
            | exact True.intro
            | (refine ⟨k, _, rfl, map_get hx, ?_⟩; conv => whnf)
            | (refine ⟨i, rfl, hil, ?_⟩; conv => whnf)
            | (refine ⟨_, map_get hg, ?_⟩; conv => whnf)
            | (refine Or.inl ?_; conv => whnf)
            | (refine And.intro (fun _ => ?_) tf; conv => whnf)
            | (refine And.intro ft (fun _ => ?_); conv => whnf)
            | (refine And.intro (by kernel_rfl) ?_; conv => whnf)
            | (refine And.intro (by decide) ?_; conv => whnf)
            | (refine And.intro (fun _ => ?_) (fun h => absurd h (by decide)); conv => whnf)
            | (refine And.intro (fun h => absurd h (by decide)) (fun _ => ?_); conv => whnf)
            | (refine And.intro (fun _ => ?_) (fun _ => ?_) <;> conv => whnf)
            | (refine ⟨_, _, nt.at2 0 1 rfl rfl rfl rfl rfl, ?_⟩; conv => whnf)
            | (refine ⟨_, _, of.pu rfl rfl, ?_⟩; conv => whnf)
            | (refine ⟨_, _, rn.at2 2 3 rfl rfl rfl rfl rfl, ?_⟩; conv => whnf)
            | (refine ⟨_, _, os.at2 0 1 rfl rfl rfl rfl rfl, ?_⟩; conv => whnf)
            | (refine ⟨_, _, neB (by kernel_rfl), ?_⟩; conv => whnf)
            | (refine ⟨_, _, neS (by kernel_rfl), ?_⟩; conv => whnf)
            | (refine ⟨_, _, ag.at4 0 1 2 5 rfl rfl rfl rfl rfl rfl rfl, ?_⟩; conv => whnf)
            | (refine ⟨_, _, fd.at2 2 5 rfl rfl rfl rfl rfl, ?_⟩; conv => whnf)))
          all_goals try (exfalso; simp only [decide_eq_true_eq, decide_eq_false_iff_not, Bool.not_eq_true', Bool.not_eq_false', Bool.not_eq_true, Bool.not_eq_false, beq_iff_eq, bne_iff_ne, beq_eq_false_iff_ne, bne_eq_false_iff_eq, ne_eq, Decidable.not_not] at *; first | omega | contradiction | (simp_all; done) | (simp_all; omega))
          refine ⟨(k + 1, (m ++ [((a, b, d), (r, z), c)], c + 1)), ⟨hlt, hst.symm⟩, show l.length - (k + 1) < l.length - k by omega, ?_⟩
          all_goals refine ⟨[(3, 5)], ?_⟩
          repeat (any_goals (first | exact True.intro | exact rfl | with_reducible_and_instances rfl | exact (by kernel_rfl) | refine And.intro ?_ ?_))
          all_goals conv => whnf
          all_goals exact wk1 (by omega)
      · have hke : k = l.length := by omega
        subst hke
        rw [List.take_length] at hs
        subst hs
        conv => whnf
        repeat (any_goals (first
          | exact True.intro
          | (refine And.intro (fun _ => ?_) tf; conv => whnf)
          | (refine And.intro ft (fun _ => ?_); conv => whnf)
          | (refine And.intro (by kernel_rfl) ?_; conv => whnf)
          | (refine And.intro (by decide) ?_; conv => whnf)
          | (refine And.intro (fun _ => ?_) (fun h => absurd h (by decide)); conv => whnf)
          | (refine And.intro (fun h => absurd h (by decide)) (fun _ => ?_); conv => whnf)
          | (refine And.intro (fun _ => ?_) (fun _ => ?_) <;> conv => whnf)))
        all_goals try (exfalso; simp only [decide_eq_true_eq, decide_eq_false_iff_not, Bool.not_eq_true', Bool.not_eq_false', Bool.not_eq_true, Bool.not_eq_false, beq_iff_eq, bne_iff_ne, beq_eq_false_iff_ne, bne_eq_false_iff_eq, ne_eq, Decidable.not_not] at *; first | omega | contradiction | (simp_all; done) | (simp_all; omega))
        all_goals try (refine Or.inl ?_; conv => whnf)
        repeat (any_goals (first
          | exact True.intro
          | (refine And.intro (fun _ => ?_) tf; conv => whnf)
          | (refine And.intro ft (fun _ => ?_); conv => whnf)
          | (refine And.intro (by kernel_rfl) ?_; conv => whnf)
          | (refine And.intro (by decide) ?_; conv => whnf)
          | (refine And.intro (fun _ => ?_) (fun h => absurd h (by decide)); conv => whnf)
          | (refine And.intro (fun h => absurd h (by decide)) (fun _ => ?_); conv => whnf)
          | (refine And.intro (fun _ => ?_) (fun _ => ?_) <;> conv => whnf)))
        all_goals try (exfalso; simp only [decide_eq_true_eq, decide_eq_false_iff_not, Bool.not_eq_true', Bool.not_eq_false', Bool.not_eq_true, Bool.not_eq_false, beq_iff_eq, bne_iff_ne, beq_eq_false_iff_ne, bne_eq_false_iff_eq, ne_eq, Decidable.not_not] at *; first | omega | contradiction | (simp_all; done) | (simp_all; omega))
        refine ⟨(), trivial, ?_⟩
        all_goals refine ⟨[], ?_⟩
        repeat (any_goals (first | exact True.intro | exact rfl | with_reducible_and_instances rfl | exact (by kernel_rfl) | refine And.intro ?_ ?_))
        all_goals conv => whnf
    · have hok := made_ok l
      generalize (madeM l).1 = m at hok ⊢
      generalize (madeM l).2 = c at hok ⊢
      have hml : m.length ≤ 60 := Nat.le_trans hok.ln hlen
      have hrl : (rowsL m).length = m.length := rowsL_len m
      have hrm : ((rowsL m).map factR).length = m.length := by rw [List.length_map, hrl]
      have isat := in_sat hok.fr (by omega) win
      have him : ((inK m win m.length).map idR).length = (inK m win m.length).length := List.length_map _
      have hil := inK_len m win
      conv => whnf
      repeat (any_goals (first
        | exact True.intro
        | (refine Or.inl ?_; conv => whnf)
        | (refine And.intro (fun _ => ?_) tf; conv => whnf)
        | (refine And.intro ft (fun _ => ?_); conv => whnf)
        | (refine And.intro (by kernel_rfl) ?_; conv => whnf)
        | (refine And.intro (by decide) ?_; conv => whnf)
        | (refine And.intro (fun _ => ?_) (fun h => absurd h (by decide)); conv => whnf)
        | (refine And.intro (fun h => absurd h (by decide)) (fun _ => ?_); conv => whnf)
        | (refine And.intro (fun _ => ?_) (fun _ => ?_) <;> conv => whnf)
        | (refine ⟨_, _, isat.at2 0 1 rfl rfl rfl rfl rfl, ?_⟩; conv => whnf)))
      refine ⟨Nat × (Int → Int) × Nat, fun y => y.1 ≤ m.length ∧ y.2.1 = cntK m y.1 ∧ y.2.2 = (inK m win y.1).length, fun y => ([(17, iA y.1), (16, iA y.2.2), (15, .own 5), (14, .ptr 4 0), (8, .ptr 2 0), (7, .ptr 0 0), (2, iA win), (1, .d (.sl 5 (o.map factR)))], [.cells [.mp 1], mapO eI eV m c, .cells [.own 3], .sl 5 ((rowsL m).map factR), .cells [iA (y.2.1 0), iA (y.2.1 1), iA (y.2.1 2), iA (y.2.1 3), iA (y.2.1 4), iA (y.2.1 5), iA (y.2.1 6)], .sl 3 ((inK m win m.length).map idR)]), fun y => m.length - y.1, ⟨(0, fun _ => 0, 0), ⟨Nat.zero_le _, by funext r; rfl, rfl⟩, ?_⟩, ?_⟩
      · all_goals refine ⟨[], ?_⟩
        repeat (any_goals (first | exact True.intro | exact rfl | with_reducible_and_instances rfl | exact (by kernel_rfl) | refine And.intro ?_ ?_))
        all_goals conv => whnf
      rintro ⟨k, f, n⟩ ⟨hk, hf, hn⟩
      replace hk : k ≤ m.length := hk
      replace hf : f = cntK m k := hf
      replace hn : n = (inK m win k).length := hn
      have hb : ∀ r, 0 ≤ f r ∧ f r ≤ 60 := fun r => by rw [hf]; have := cntK_le m k r; omega
      by_cases hlt : k < m.length
      · obtain ⟨⟨⟨a, b, d⟩, r, z⟩, hr⟩ : ∃ x, (rowsL m)[k]? = some x := ⟨(rowsL m)[k]'(by omega), List.getElem?_eq_getElem _⟩
        have hkr : k < ((rowsL m).map factR).length := by omega
        have hr6 : 0 ≤ r ∧ r ≤ 6 := rows_ver hok.toFr hok.ok hr
        obtain ⟨hid, hve⟩ := rows_in hr
        obtain ⟨g, hg⟩ : ∃ g, g = cntK m (k + 1) := ⟨_, rfl⟩
        have hge : ∀ q, g q = f q + if r = q then 1 else 0 := fun q => by rw [hg, hf]; exact cntK_succ hr q
        have g0 := hge 0; have g1 := hge 1; have g2 := hge 2; have g3 := hge 3; have g4 := hge 4; have g5 := hge 5; have g6 := hge 6
        have b0 := hb 0; have b1 := hb 1; have b2 := hb 2; have b3 := hb 3; have b4 := hb 4; have b5 := hb 5; have b6 := hb 6
        have hnn := inK_succ (m := m) (z := win) hid
        have hn1 : (inK m win (k + 1)).length ≤ 60 := Nat.le_trans (hil (k + 1)) hml
        have hI : r = 0 ∧ z = win → (inK m win m.length)[n]? = some (a, b, d) := fun h => by
          rw [hn]; exact inK_get hlt hid (by rw [hve, h.1, h.2])
        obtain ⟨n1, hn1e⟩ : ∃ n1, n1 = (inK m win (k + 1)).length := ⟨_, rfl⟩
        have hnx : n1 = if r = 0 ∧ z = win then n + 1 else n := by
          rw [hn1e, hnn, hve, hn]
          by_cases e : r = 0 ∧ z = win
          · rw [if_pos e, if_pos (by rw [e.1, e.2])]; simp
          · rw [if_neg e, if_neg (fun q => e (by injection q with q1 q2; exact ⟨q1, q2⟩))]; simp
        have hy : ∃ y : Nat × (Int → Int) × Nat, (y.1 ≤ m.length ∧ y.2.1 = cntK m y.1 ∧ y.2.2 = (inK m win y.1).length) ∧ y.1 = k + 1 ∧ y.2.1 = g ∧ y.2.2 = n1 := ⟨(k + 1, g, n1), ⟨hlt, hg, hn1e⟩, rfl, rfl, rfl⟩
        obtain ⟨⟨k2, g', n2⟩, hy1, hk2, hy3, hy4⟩ := hy
        replace hk2 : k2 = k + 1 := hk2
        replace hy3 : g' = g := hy3
        replace hy4 : n2 = n1 := hy4
        have hn60 : n1 ≤ 60 := by rw [hn1e]; exact hn1
        subst hk2 hy3 hy4
        clear hg hge hb hf hn hnn hn1 hn1e hve hid
        obtain ⟨q, rfl⟩ : ∃ q : Nat, r = (q : Int) := ⟨r.toNat, by omega⟩
        by_cases hq0 : q = 0
        · subst hq0
          simp at g0 g1 g2 g3 g4 g5 g6
          by_cases hz : z = win
          · subst hz
            have hI := hI ⟨rfl, rfl⟩
            have hnl : n < ((inK m z m.length).map idR).length := by rw [him]; exact (List.getElem?_eq_some_iff.1 hI).1
            rw [if_pos ⟨rfl, rfl⟩] at hnx
            conv => whnf
            repeat (any_goals (first
              | exact True.intro
              | (refine ⟨k, rfl, hkr, ?_⟩; conv => whnf)
              | (refine ⟨_, map_get hr, ?_⟩; conv => whnf)
              | (refine ⟨n, rfl, hnl, ?_⟩; conv => whnf)
              | (refine ⟨_, map_get hI, ?_⟩; conv => whnf)
              | (refine ⟨0, rfl, by decide, ?_⟩; conv => whnf)
              | (refine Or.inl ?_; conv => whnf)
              | (refine And.intro (fun _ => ?_) tf; conv => whnf)
              | (refine And.intro ft (fun _ => ?_); conv => whnf)
              | (refine And.intro (by kernel_rfl) ?_; conv => whnf)
              | (refine And.intro (by decide) ?_; conv => whnf)
              | (refine And.intro (fun _ => ?_) (fun h => absurd h (by decide)); conv => whnf)
              | (refine And.intro (fun h => absurd h (by decide)) (fun _ => ?_); conv => whnf)
              | (refine And.intro (fun _ => ?_) (fun _ => ?_) <;> conv => whnf)
              | (refine ⟨_, _, neF [1, 1, 1] (by kernel_rfl) rfl, ?_⟩; conv => whnf)))
            all_goals try (exfalso; have hc : (!(a == a && (b == b && d == d))) = true := by assumption
                           simp at hc; done)
            all_goals try (exfalso; simp only [decide_eq_true_eq, decide_eq_false_iff_not, Bool.not_eq_true', Bool.not_eq_false', Bool.not_eq_true, Bool.not_eq_false, beq_iff_eq, bne_iff_ne, beq_eq_false_iff_ne, bne_eq_false_iff_eq, ne_eq, Decidable.not_not] at *; first | omega | contradiction | (simp_all; done) | (simp_all; omega))
            refine ⟨(k + 1, g', n2), hy1, show m.length - (k + 1) < m.length - k by omega, ?_⟩
            refine (show Weak 0 _ _ [(17, iA ((k + 1 : Nat) : Int)), (16, iA (n2 : Int)), (15, .own 5), (14, .ptr 4 0), (8, .ptr 2 0), (7, .ptr 0 0), (2, iA z), (1, .d (.sl 5 (o.map factR)))] [.cells [.mp 1], mapO eI eV m c, .cells [.own 3], .sl 5 ((rowsL m).map factR), .cells [iA (g' 0), iA (g' 1), iA (g' 2), iA (g' 3), iA (g' 4), iA (g' 5), iA (g' 6)], .sl 3 ((inK m z m.length).map idR)] from ?_)
            rw [g0, g1, g2, g3, g4, g5, g6, hnx]
            all_goals refine ⟨[], ?_⟩
            repeat (any_goals (first | exact True.intro | exact rfl | with_reducible_and_instances rfl | exact (by kernel_rfl) | refine And.intro ?_ ?_))
            all_goals conv => whnf
            all_goals first
              | exact wk1 (by omega)
              | exact wk1 (k := n) (by omega)
              | (refine congrArg (fun z => (.d (.v (.int .i64 z)) : AV)) ?_; show IntKind.i64.wrap (f _ + 1) = f _ + 1; exact wi (by omega) (by omega))
          · rw [if_neg (fun e => hz e.2)] at hnx
            conv => whnf
            repeat (any_goals (first
              | exact True.intro
              | (refine ⟨k, rfl, hkr, ?_⟩; conv => whnf)
              | (refine ⟨_, map_get hr, ?_⟩; conv => whnf)
              | (refine ⟨0, rfl, by decide, ?_⟩; conv => whnf)
              | (refine Or.inl ?_; conv => whnf)
              | (refine And.intro (fun _ => ?_) tf; conv => whnf)
              | (refine And.intro ft (fun _ => ?_); conv => whnf)
              | (refine And.intro (by kernel_rfl) ?_; conv => whnf)
              | (refine And.intro (by decide) ?_; conv => whnf)
              | (refine And.intro (fun _ => ?_) (fun h => absurd h (by decide)); conv => whnf)
              | (refine And.intro (fun h => absurd h (by decide)) (fun _ => ?_); conv => whnf)
              | (refine And.intro (fun _ => ?_) (fun _ => ?_) <;> conv => whnf)))
            all_goals try (exfalso; simp only [decide_eq_true_eq, decide_eq_false_iff_not, Bool.not_eq_true', Bool.not_eq_false', Bool.not_eq_true, Bool.not_eq_false, beq_iff_eq, bne_iff_ne, beq_eq_false_iff_ne, bne_eq_false_iff_eq, ne_eq, Decidable.not_not] at *; first | omega | contradiction | (simp_all; done) | (simp_all; omega))
            refine ⟨(k + 1, g', n2), hy1, show m.length - (k + 1) < m.length - k by omega, ?_⟩
            refine (show Weak 0 _ _ [(17, iA ((k + 1 : Nat) : Int)), (16, iA (n2 : Int)), (15, .own 5), (14, .ptr 4 0), (8, .ptr 2 0), (7, .ptr 0 0), (2, iA win), (1, .d (.sl 5 (o.map factR)))] [.cells [.mp 1], mapO eI eV m c, .cells [.own 3], .sl 5 ((rowsL m).map factR), .cells [iA (g' 0), iA (g' 1), iA (g' 2), iA (g' 3), iA (g' 4), iA (g' 5), iA (g' 6)], .sl 3 ((inK m win m.length).map idR)] from ?_)
            rw [g0, g1, g2, g3, g4, g5, g6, hnx]
            all_goals refine ⟨[], ?_⟩
            repeat (any_goals (first | exact True.intro | exact rfl | with_reducible_and_instances rfl | exact (by kernel_rfl) | refine And.intro ?_ ?_))
            all_goals conv => whnf
            all_goals first
              | exact wk1 (by omega)
              | exact wk1 (k := n) (by omega)
              | (refine congrArg (fun z => (.d (.v (.int .i64 z)) : AV)) ?_; show IntKind.i64.wrap (f _ + 1) = f _ + 1; exact wi (by omega) (by omega))
        · rw [if_neg (fun e => hq0 (by have := e.1; omega))] at hnx
          have hq : q = 1 ∨ q = 2 ∨ q = 3 ∨ q = 4 ∨ q = 5 ∨ q = 6 := by omega
          rcases hq with rfl | rfl | rfl | rfl | rfl | rfl
          all_goals simp at g0 g1 g2 g3 g4 g5 g6
          conv => whnf
          repeat (any_goals (first
            | exact True.intro
            | (refine ⟨k, rfl, hkr, ?_⟩; conv => whnf)
            | (refine ⟨_, map_get hr, ?_⟩; conv => whnf)
            | (refine ⟨1, rfl, by decide, ?_⟩; conv => whnf)
            | (refine ⟨2, rfl, by decide, ?_⟩; conv => whnf)
            | (refine ⟨3, rfl, by decide, ?_⟩; conv => whnf)
            | (refine ⟨4, rfl, by decide, ?_⟩; conv => whnf)
            | (refine ⟨5, rfl, by decide, ?_⟩; conv => whnf)
            | (refine ⟨6, rfl, by decide, ?_⟩; conv => whnf)
            | (refine Or.inl ?_; conv => whnf)
            | (refine And.intro (fun _ => ?_) tf; conv => whnf)
            | (refine And.intro ft (fun _ => ?_); conv => whnf)
            | (refine And.intro (by kernel_rfl) ?_; conv => whnf)
            | (refine And.intro (by decide) ?_; conv => whnf)
            | (refine And.intro (fun _ => ?_) (fun h => absurd h (by decide)); conv => whnf)
            | (refine And.intro (fun h => absurd h (by decide)) (fun _ => ?_); conv => whnf)
            | (refine And.intro (fun _ => ?_) (fun _ => ?_) <;> conv => whnf)))
          all_goals try (exfalso; simp only [decide_eq_true_eq, decide_eq_false_iff_not, Bool.not_eq_true', Bool.not_eq_false', Bool.not_eq_true, Bool.not_eq_false, beq_iff_eq, bne_iff_ne, beq_eq_false_iff_ne, bne_eq_false_iff_eq, ne_eq, Decidable.not_not] at *; first | omega | contradiction | (simp_all; done) | (simp_all; omega))
          all_goals refine ⟨(k + 1, g', n2), hy1, show m.length - (k + 1) < m.length - k by omega, ?_⟩
          all_goals refine (show Weak 0 _ _ [(17, iA ((k + 1 : Nat) : Int)), (16, iA (n2 : Int)), (15, .own 5), (14, .ptr 4 0), (8, .ptr 2 0), (7, .ptr 0 0), (2, iA win), (1, .d (.sl 5 (o.map factR)))] [.cells [.mp 1], mapO eI eV m c, .cells [.own 3], .sl 5 ((rowsL m).map factR), .cells [iA (g' 0), iA (g' 1), iA (g' 2), iA (g' 3), iA (g' 4), iA (g' 5), iA (g' 6)], .sl 3 ((inK m win m.length).map idR)] from ?_)
          all_goals rw [g0, g1, g2, g3, g4, g5, g6, hnx]
          all_goals refine ⟨[], ?_⟩
          repeat (any_goals (first | exact True.intro | exact rfl | with_reducible_and_instances rfl | exact (by kernel_rfl) | refine And.intro ?_ ?_))
          all_goals conv => whnf
          all_goals first
            | exact wk1 (by omega)
            | exact wk1 (k := n) (by omega)
            | (refine congrArg (fun z => (.d (.v (.int .i64 z)) : AV)) ?_; show IntKind.i64.wrap (f _ + 1) = f _ + 1; exact wi (by omega) (by omega))
      · have hke : k = m.length := by omega
        subst hke
        have hfa : f = cntR m := by funext r; rw [hf]; exact cntK_all hok.toFr r
        subst hfa
        clear hf
        have hmuok := made_ok o
        have mu := made_sat o (by omega)
        obtain ⟨⟨m2, c2⟩, hM⟩ : ∃ s, madeM o = s := ⟨_, rfl⟩
        rw [hM] at hmuok mu
        replace hmuok : LedOK m2 c2 o.length := hmuok
        replace mu : Sat Try.prog 19 [.d (.sl 5 (o.map factR))] [] (.ptr 0 0) (ledO m2 c2) := mu
        conv => whnf
        repeat (any_goals (first
          | exact True.intro
          | (refine And.intro (fun _ => ?_) tf; conv => whnf)
          | (refine And.intro ft (fun _ => ?_); conv => whnf)
          | (refine And.intro (by kernel_rfl) ?_; conv => whnf)
          | (refine And.intro (by decide) ?_; conv => whnf)
          | (refine And.intro (fun _ => ?_) (fun h => absurd h (by decide)); conv => whnf)
          | (refine And.intro (fun h => absurd h (by decide)) (fun _ => ?_); conv => whnf)
          | (refine And.intro (fun _ => ?_) (fun _ => ?_) <;> conv => whnf)
          | (refine ⟨_, _, mu.nw rfl, ?_⟩; conv => whnf)))
        all_goals try (exfalso; simp only [decide_eq_true_eq, decide_eq_false_iff_not, Bool.not_eq_true', Bool.not_eq_false', Bool.not_eq_true, Bool.not_eq_false, beq_iff_eq, bne_iff_ne, beq_eq_false_iff_ne, bne_eq_false_iff_eq, ne_eq, Decidable.not_not] at *; first | omega | contradiction | (simp_all; done) | (simp_all; omega))
        all_goals try (refine Or.inl ?_; conv => whnf)
        repeat (any_goals (first
          | exact True.intro
          | (refine And.intro (fun _ => ?_) tf; conv => whnf)
          | (refine And.intro ft (fun _ => ?_); conv => whnf)
          | (refine And.intro (by kernel_rfl) ?_; conv => whnf)
          | (refine And.intro (by decide) ?_; conv => whnf)
          | (refine And.intro (fun _ => ?_) (fun h => absurd h (by decide)); conv => whnf)
          | (refine And.intro (fun h => absurd h (by decide)) (fun _ => ?_); conv => whnf)
          | (refine And.intro (fun _ => ?_) (fun _ => ?_) <;> conv => whnf)
          | (refine ⟨_, _, mu.nw rfl, ?_⟩; conv => whnf)))
        all_goals try (exfalso; simp only [decide_eq_true_eq, decide_eq_false_iff_not, Bool.not_eq_true', Bool.not_eq_false', Bool.not_eq_true, Bool.not_eq_false, beq_iff_eq, bne_iff_ne, beq_eq_false_iff_ne, bne_eq_false_iff_eq, ne_eq, Decidable.not_not] at *; first | omega | contradiction | (simp_all; done) | (simp_all; omega))
        refine Or.inr ⟨Unit, fun _ => True, fun _ => ([(20, .ptr 8 0), (19, .ptr 6 0), (16, iA n), (15, .own 5), (14, .ptr 4 0), (8, .ptr 2 0), (7, .ptr 0 0)], [.cells [.mp 1], mapO eI eV m c, .cells [.own 3], .sl 5 ((rowsL m).map factR), .cells [iA (cntR m 0), iA (cntR m 1), iA (cntR m 2), iA (cntR m 3), iA (cntR m 4), iA (cntR m 5), iA (cntR m 6)], .sl 3 ((inK m win m.length).map idR), .cells [.mp 7], mapO eI eV m2 c2, .cells [.own 9], .sl 5 ((rowsL m2).map factR)]), ?_, fun _ _ => ?_⟩
        · conv => whnf
          repeat (any_goals (first
            | exact True.intro
            | (refine And.intro (fun _ => ?_) tf; conv => whnf)
            | (refine And.intro ft (fun _ => ?_); conv => whnf)
            | (refine And.intro (by kernel_rfl) ?_; conv => whnf)
            | (refine And.intro (by decide) ?_; conv => whnf)
            | (refine And.intro (fun _ => ?_) (fun h => absurd h (by decide)); conv => whnf)
            | (refine And.intro (fun h => absurd h (by decide)) (fun _ => ?_); conv => whnf)
            | (refine And.intro (fun _ => ?_) (fun _ => ?_) <;> conv => whnf)))
          have hr0 : (rowsL []).map factR = [] := by unfold rowsL idsL sorted; simp
          refine ⟨Nat × (Led × Nat), fun y => y.1 ≤ o.length ∧ y.2 = madeM (o.take y.1), fun y => ([(21, iA y.1), (20, .ptr 8 0), (19, .ptr 6 0), (16, iA n), (15, .own 5), (14, .ptr 4 0), (8, .ptr 2 0), (7, .ptr 0 0), (1, .d (.sl 5 (o.map factR)))], [.cells [.mp 1], mapO eI eV m c, .cells [.own 3], .sl 5 ((rowsL m).map factR), .cells [iA (cntR m 0), iA (cntR m 1), iA (cntR m 2), iA (cntR m 3), iA (cntR m 4), iA (cntR m 5), iA (cntR m 6)], .sl 3 ((inK m win m.length).map idR), .cells [.mp 7], mapO eI eV m2 c2, .cells [.own 9], .sl 5 ((rowsL y.2.1).map factR)]), fun y => o.length - y.1, ⟨(0, ([], 0)), ⟨Nat.zero_le _, rfl⟩, ?_⟩, ?_⟩
          · refine (show Weak 0 _ _ [(21, iA 0), (20, .ptr 8 0), (19, .ptr 6 0), (16, iA n), (15, .own 5), (14, .ptr 4 0), (8, .ptr 2 0), (7, .ptr 0 0), (1, .d (.sl 5 (o.map factR)))] [.cells [.mp 1], mapO eI eV m c, .cells [.own 3], .sl 5 ((rowsL m).map factR), .cells [iA (cntR m 0), iA (cntR m 1), iA (cntR m 2), iA (cntR m 3), iA (cntR m 4), iA (cntR m 5), iA (cntR m 6)], .sl 3 ((inK m win m.length).map idR), .cells [.mp 7], mapO eI eV m2 c2, .cells [.own 9], .sl 5 ((rowsL []).map factR)] from ?_)
            rw [hr0]
            all_goals refine ⟨[], ?_⟩
            repeat (any_goals (first | exact True.intro | exact rfl | with_reducible_and_instances rfl | exact (by kernel_rfl) | refine And.intro ?_ ?_))
            all_goals conv => whnf
          rintro ⟨k, s⟩ ⟨hk3, hs⟩
          replace hk3 : k ≤ o.length := hk3
          replace hs : s = madeM (o.take k) := hs
          by_cases hlt3 : k < o.length
          · have hx : o[k]? = some o[k] := List.getElem?_eq_getElem hlt3
            generalize o[k] = f at hx
            obtain ⟨⟨a, b, d⟩, r, z⟩ := f
            have hst := made_take_succ hx
            have hok3 := made_ok (o.take k)
            rw [← hs] at hst hok3
            unfold stepM at hst
            simp only at hst
            have hsl : s.1.length ≤ 60 := by
              have h1 := hok3.ln
              rw [List.length_take] at h1
              omega
            obtain ⟨m3, c3⟩ := s
            simp only at hst hsl
            clear hs
            have hrl3 : (rowsL m3).length = m3.length := rowsL_len m3
            have of := ofF_sat a b d r z
            rcases noteR_cases m3 c3 a b d (r, z) with ⟨e, hbad⟩ | ⟨hgood, o1, ho, he⟩ | ⟨hgood, hn3, e⟩
            · rw [e] at hst
              have rn := noteRef_bad (R := rowsL m3) hbad
              conv => whnf
              repeat (any_goals (first
                | exact True.intro
                | (refine ⟨k, _, rfl, map_get hx, ?_⟩; conv => whnf)
                | (refine Or.inl ?_; conv => whnf)
                | (refine And.intro (fun _ => ?_) tf; conv => whnf)
                | (refine And.intro ft (fun _ => ?_); conv => whnf)
                | (refine And.intro (by kernel_rfl) ?_; conv => whnf)
                | (refine And.intro (by decide) ?_; conv => whnf)
                | (refine And.intro (fun _ => ?_) (fun h => absurd h (by decide)); conv => whnf)
                | (refine And.intro (fun h => absurd h (by decide)) (fun _ => ?_); conv => whnf)
                | (refine And.intro (fun _ => ?_) (fun _ => ?_) <;> conv => whnf)
                | (refine ⟨_, _, of.pu rfl rfl, ?_⟩; conv => whnf)
                | (refine ⟨_, _, rn.at2 8 9 rfl rfl rfl rfl rfl, ?_⟩; conv => whnf)))
              all_goals try (exfalso; simp only [decide_eq_true_eq, decide_eq_false_iff_not, Bool.not_eq_true', Bool.not_eq_false', Bool.not_eq_true, Bool.not_eq_false, beq_iff_eq, bne_iff_ne, beq_eq_false_iff_ne, bne_eq_false_iff_eq, ne_eq, Decidable.not_not] at *; first | omega | contradiction | (simp_all; done) | (simp_all; omega))
              refine ⟨(k + 1, (m3, c3)), ⟨hlt3, hst.symm⟩, show o.length - (k + 1) < o.length - k by omega, ?_⟩
              all_goals refine ⟨[], ?_⟩
              repeat (any_goals (first | exact True.intro | exact rfl | with_reducible_and_instances rfl | exact (by kernel_rfl) | refine And.intro ?_ ?_))
              all_goals conv => whnf
              all_goals exact wk1 (by omega)
            · obtain ⟨i, hi, hg⟩ := rows_at ho
              have rn := noteRef_old (R := rowsL m3) (r := r) (z := z) (by omega) hgood hi hg
              have hst : (m3, c3) = madeM (o.take (k + 1)) := by
                rcases he with ⟨_, e⟩ | ⟨_, e⟩
                · rw [e] at hst; exact hst.symm
                · rw [e] at hst; exact hst.symm
              clear he
              conv => whnf
              repeat (any_goals (first
                | exact True.intro
                | (refine ⟨k, _, rfl, map_get hx, ?_⟩; conv => whnf)
                | (refine Or.inl ?_; conv => whnf)
                | (refine And.intro (fun _ => ?_) tf; conv => whnf)
                | (refine And.intro ft (fun _ => ?_); conv => whnf)
                | (refine And.intro (by kernel_rfl) ?_; conv => whnf)
                | (refine And.intro (by decide) ?_; conv => whnf)
                | (refine And.intro (fun _ => ?_) (fun h => absurd h (by decide)); conv => whnf)
                | (refine And.intro (fun h => absurd h (by decide)) (fun _ => ?_); conv => whnf)
                | (refine And.intro (fun _ => ?_) (fun _ => ?_) <;> conv => whnf)
                | (refine ⟨_, _, of.pu rfl rfl, ?_⟩; conv => whnf)
                | (refine ⟨_, _, rn.at2 8 9 rfl rfl rfl rfl rfl, ?_⟩; conv => whnf)))
              all_goals try (exfalso; simp only [decide_eq_true_eq, decide_eq_false_iff_not, Bool.not_eq_true', Bool.not_eq_false', Bool.not_eq_true, Bool.not_eq_false, beq_iff_eq, bne_iff_ne, beq_eq_false_iff_ne, bne_eq_false_iff_eq, ne_eq, Decidable.not_not] at *; first | omega | contradiction | (simp_all; done) | (simp_all; omega))
              refine ⟨(k + 1, (m3, c3)), ⟨hlt3, hst⟩, show o.length - (k + 1) < o.length - k by omega, ?_⟩
              all_goals refine ⟨[], ?_⟩
              repeat (any_goals (first | exact True.intro | exact rfl | with_reducible_and_instances rfl | exact (by kernel_rfl) | refine And.intro ?_ ?_))
              all_goals conv => whnf
              all_goals exact wk1 (by omega)
            · rw [e] at hst
              have rn := noteRef_new (R := rowsL m3) (r := r) (z := z) (by omega) hgood (rows_not hn3)
              have hrn : rowsL (m3 ++ [((a, b, d), (r, z), c3)]) = insR (rowsL m3) ((a, b, d), (r, z)) := rows_new hok3 hn3
              rw [← hrn] at rn
              conv => whnf
              repeat (any_goals (first
                | exact True.intro
                | (refine ⟨k, _, rfl, map_get hx, ?_⟩; conv => whnf)
                | (refine Or.inl ?_; conv => whnf)
                | (refine And.intro (fun _ => ?_) tf; conv => whnf)
                | (refine And.intro ft (fun _ => ?_); conv => whnf)
                | (refine And.intro (by kernel_rfl) ?_; conv => whnf)
                | (refine And.intro (by decide) ?_; conv => whnf)
                | (refine And.intro (fun _ => ?_) (fun h => absurd h (by decide)); conv => whnf)
                | (refine And.intro (fun h => absurd h (by decide)) (fun _ => ?_); conv => whnf)
                | (refine And.intro (fun _ => ?_) (fun _ => ?_) <;> conv => whnf)
                | (refine ⟨_, _, of.pu rfl rfl, ?_⟩; conv => whnf)
                | (refine ⟨_, _, rn.at2 8 9 rfl rfl rfl rfl rfl, ?_⟩; conv => whnf)))
              all_goals try (exfalso; simp only [decide_eq_true_eq, decide_eq_false_iff_not, Bool.not_eq_true', Bool.not_eq_false', Bool.not_eq_true, Bool.not_eq_false, beq_iff_eq, bne_iff_ne, beq_eq_false_iff_ne, bne_eq_false_iff_eq, ne_eq, Decidable.not_not] at *; first | omega | contradiction | (simp_all; done) | (simp_all; omega))
              refine ⟨(k + 1, (m3 ++ [((a, b, d), (r, z), c3)], c3 + 1)), ⟨hlt3, hst.symm⟩, show o.length - (k + 1) < o.length - k by omega, ?_⟩
              all_goals refine ⟨[(9, 10)], ?_⟩
              repeat (any_goals (first | exact True.intro | exact rfl | with_reducible_and_instances rfl | exact (by kernel_rfl) | refine And.intro ?_ ?_))
              all_goals conv => whnf
              all_goals exact wk1 (by omega)
          · have hke : k = o.length := by omega
            subst hke
            rw [List.take_length, hM] at hs
            subst hs
            conv => whnf
            repeat (any_goals (first
              | exact True.intro
              | (refine And.intro (fun _ => ?_) tf; conv => whnf)
              | (refine And.intro ft (fun _ => ?_); conv => whnf)
              | (refine And.intro (by kernel_rfl) ?_; conv => whnf)
              | (refine And.intro (by decide) ?_; conv => whnf)
              | (refine And.intro (fun _ => ?_) (fun h => absurd h (by decide)); conv => whnf)
              | (refine And.intro (fun h => absurd h (by decide)) (fun _ => ?_); conv => whnf)
              | (refine And.intro (fun _ => ?_) (fun _ => ?_) <;> conv => whnf)))
            all_goals try (exfalso; simp only [decide_eq_true_eq, decide_eq_false_iff_not, Bool.not_eq_true', Bool.not_eq_false', Bool.not_eq_true, Bool.not_eq_false, beq_iff_eq, bne_iff_ne, beq_eq_false_iff_ne, bne_eq_false_iff_eq, ne_eq, Decidable.not_not] at *; first | omega | contradiction | (simp_all; done) | (simp_all; omega))
            all_goals try (refine Or.inl ?_; conv => whnf)
            repeat (any_goals (first
              | exact True.intro
              | (refine And.intro (fun _ => ?_) tf; conv => whnf)
              | (refine And.intro ft (fun _ => ?_); conv => whnf)
              | (refine And.intro (by kernel_rfl) ?_; conv => whnf)
              | (refine And.intro (by decide) ?_; conv => whnf)
              | (refine And.intro (fun _ => ?_) (fun h => absurd h (by decide)); conv => whnf)
              | (refine And.intro (fun h => absurd h (by decide)) (fun _ => ?_); conv => whnf)
              | (refine And.intro (fun _ => ?_) (fun _ => ?_) <;> conv => whnf)))
            all_goals try (exfalso; simp only [decide_eq_true_eq, decide_eq_false_iff_not, Bool.not_eq_true', Bool.not_eq_false', Bool.not_eq_true, Bool.not_eq_false, beq_iff_eq, bne_iff_ne, beq_eq_false_iff_ne, bne_eq_false_iff_eq, ne_eq, Decidable.not_not] at *; first | omega | contradiction | (simp_all; done) | (simp_all; omega))
            refine ⟨(), trivial, ?_⟩
            all_goals refine ⟨[], ?_⟩
            repeat (any_goals (first | exact True.intro | exact rfl | with_reducible_and_instances rfl | exact (by kernel_rfl) | refine And.intro ?_ ?_))
            all_goals conv => whnf
        have hrl2 : (rowsL m2).length = m2.length := rowsL_len m2
        have hrm2 : ((rowsL m2).map factR).length = m2.length := by rw [List.length_map, hrl2]
        have hml2 : m2.length ≤ 60 := Nat.le_trans hmuok.ln hleno
        clear mu hM
        have tl := tally_sat hok.fr (by omega) hok.ok
        have ht : talR m = [iD (cntR m 0), iD (cntR m 1), iD (cntR m 2), iD (cntR m 3), iD (cntR m 4), iD (cntR m 5), iD (cntR m 6)] := rfl
        rw [ht] at tl
        clear ht
        have hT : ∀ (L : List AObj) (n ty : Nat) (x y : Operand) (t' : TypeId), Does Try.prog (.binOp .eql 48 x y t') ty L n [.d (.agg [iD (cntR m 0), iD (cntR m 1), iD (cntR m 2), iD (cntR m 3), iD (cntR m 4), iD (cntR m 5), iD (cntR m 6)]), .d (.agg [iD (cntR m 0), iD (cntR m 1), iD (cntR m 2), iD (cntR m 3), iD (cntR m 4), iD (cntR m 5), iD (cntR m 6)])] e0 (bA true) := fun L n ty x y t' => by
          have h := eqArr (P := Try.prog) (L := L) (n := n) (ty := ty) (x := x) (y := y) (t' := t') Try.underlying48 Try.underlying3 (by kernel_rfl) (by kernel_rfl) (by kernel_rfl) [cntR m 0, cntR m 1, cntR m 2, cntR m 3, cntR m 4, cntR m 5, cntR m 6] [cntR m 0, cntR m 1, cntR m 2, cntR m 3, cntR m 4, cntR m 5, cntR m 6] rfl rfl
          rwa [decide_eq_true rfl] at h
        have st := same_two (c2 := c2) hok.fr (by omega) (show m2.length ≤ 1000000 by omega)
        rw [eqMB_rows hok.toFr hmuok.toFr] at st
        have st2 := same_two (c2 := c) hmuok.fr (by omega) (show m.length ≤ 1000000 by omega)
        have e2 : eqMB m2 m = decide (rowsL m = rowsL m2) := by rw [eqMB_rows hmuok.toFr hok.toFr]; exact decide_eq_decide.2 eq_comm
        rw [e2] at st2
        clear e2
        have sn := same_ln m c
        have hin : n = ((inK m win m.length).map idR).length := by rw [hn, him]
        clear hok hmuok hb hn
        conv => whnf
        repeat (any_goals (first
          | exact True.intro
          | (refine And.intro (fun _ => ?_) tf; conv => whnf)
          | (refine And.intro ft (fun _ => ?_); conv => whnf)
          | (refine And.intro (by kernel_rfl) ?_; conv => whnf)
          | (refine And.intro (by decide) ?_; conv => whnf)
          | (refine And.intro (fun _ => ?_) (fun h => absurd h (by decide)); conv => whnf)
          | (refine And.intro (fun h => absurd h (by decide)) (fun _ => ?_); conv => whnf)
          | (refine And.intro (fun _ => ?_) (fun _ => ?_) <;> conv => whnf)))
        all_goals try (exfalso; simp only [decide_eq_true_eq, decide_eq_false_iff_not, Bool.not_eq_true', Bool.not_eq_false', Bool.not_eq_true, Bool.not_eq_false, beq_iff_eq, bne_iff_ne, beq_eq_false_iff_ne, bne_eq_false_iff_eq, ne_eq, Decidable.not_not] at *; first | omega | contradiction | (simp_all; done) | (simp_all; omega))
        all_goals try (refine Or.inl ?_; conv => whnf)
        repeat (any_goals (first
          | exact True.intro
          | (refine And.intro (fun _ => ?_) tf; conv => whnf)
          | (refine And.intro ft (fun _ => ?_); conv => whnf)
          | (refine And.intro (by kernel_rfl) ?_; conv => whnf)
          | (refine And.intro (by decide) ?_; conv => whnf)
          | (refine And.intro (fun _ => ?_) (fun h => absurd h (by decide)); conv => whnf)
          | (refine And.intro (fun h => absurd h (by decide)) (fun _ => ?_); conv => whnf)
          | (refine And.intro (fun _ => ?_) (fun _ => ?_) <;> conv => whnf)))
        refine ⟨Nat × Bool, fun y => y.1 ≤ m.length ∧ (y.2 = true → m.length = m2.length ∧ (rowsL m).take y.1 = (rowsL m2).take y.1) ∧ (y.2 = false → rowsL m ≠ rowsL m2), fun y => ([(23, iA y.1), (22, bA y.2), (20, .ptr 8 0), (19, .ptr 6 0), (16, iA n), (15, .own 5), (14, .ptr 4 0), (8, .ptr 2 0), (7, .ptr 0 0)], [.cells [.mp 1], mapO eI eV m c, .cells [.own 3], .sl 5 ((rowsL m).map factR), .cells [iA (cntR m 0), iA (cntR m 1), iA (cntR m 2), iA (cntR m 3), iA (cntR m 4), iA (cntR m 5), iA (cntR m 6)], .sl 3 ((inK m win m.length).map idR), .cells [.mp 7], mapO eI eV m2 c2, .cells [.own 9], .sl 5 ((rowsL m2).map factR)]), fun y => m.length - y.1, ⟨(0, ((((rowsL m).map factR).length : Int) == (((rowsL m2).map factR).length : Int))), ⟨Nat.zero_le _, fun h => ⟨by have h := eq_of_beq h; omega, rfl⟩, fun h e => by rw [e] at h; simp at h⟩, ?_⟩, ?_⟩
        · all_goals refine ⟨[], ?_⟩
          repeat (any_goals (first | exact True.intro | exact rfl | with_reducible_and_instances rfl | exact (by kernel_rfl) | refine And.intro ?_ ?_))
          all_goals conv => whnf
        rintro ⟨k, b⟩ ⟨hk4, hbt, hbf⟩
        replace hk4 : k ≤ m.length := hk4
        replace hbt : b = true → m.length = m2.length ∧ (rowsL m).take k = (rowsL m2).take k := hbt
        replace hbf : b = false → rowsL m ≠ rowsL m2 := hbf
        by_cases hlt4 : k < m.length ∧ b = true
        · obtain ⟨hlt4, rfl⟩ := hlt4
          obtain ⟨hl12, htk⟩ := hbt rfl
          obtain ⟨f, hf⟩ : ∃ x, (rowsL m)[k]? = some x := ⟨(rowsL m)[k]'(by omega), List.getElem?_eq_getElem _⟩
          obtain ⟨g, hg⟩ : ∃ x, (rowsL m2)[k]? = some x := ⟨(rowsL m2)[k]'(by omega), List.getElem?_eq_getElem _⟩
          have hk1 : k < ((rowsL m).map factR).length := by omega
          have hk2 : k < ((rowsL m2).map factR).length := by omega
          have er := fun L n ty x y t' => eqRow (L := L) (n := n) (ty := ty) (x := x) (y := y) (t' := t') f g
          have hi1 : decide (f = g) = true → m.length = m2.length ∧ (rowsL m).take (k + 1) = (rowsL m2).take (k + 1) := fun h => by
            have h := of_decide_eq_true h
            rw [List.take_add_one, List.take_add_one, hf, hg, h, htk]
            exact ⟨hl12, rfl⟩
          have hi2 : decide (f = g) = false → rowsL m ≠ rowsL m2 := fun h e => by
            have h := of_decide_eq_false h
            rw [e, hg] at hf
            exact h (Option.some.inj hf).symm
          clear hbt hbf htk
          obtain ⟨⟨fa, fb, fd⟩, fr, fz⟩ := f
          obtain ⟨⟨ga, gb, gd⟩, gr, gz⟩ := g
          conv => whnf
          repeat (any_goals (first
            | exact True.intro
            | (refine ⟨k, rfl, hk1, ?_⟩; conv => whnf)
            | (refine ⟨k, rfl, hk2, ?_⟩; conv => whnf)
            | (refine ⟨_, map_get hf, ?_⟩; conv => whnf)
            | (refine ⟨_, map_get hg, ?_⟩; conv => whnf)
            | (refine Or.inl ?_; conv => whnf)
            | (refine And.intro (fun _ => ?_) tf; conv => whnf)
            | (refine And.intro ft (fun _ => ?_); conv => whnf)
            | (refine And.intro (by kernel_rfl) ?_; conv => whnf)
            | (refine And.intro (by decide) ?_; conv => whnf)
            | (refine And.intro (fun _ => ?_) (fun h => absurd h (by decide)); conv => whnf)
            | (refine And.intro (fun h => absurd h (by decide)) (fun _ => ?_); conv => whnf)
            | (refine And.intro (fun _ => ?_) (fun _ => ?_) <;> conv => whnf)
            | (refine ⟨_, _, er _ _ _ _ _ _, ?_⟩; conv => whnf)))
          all_goals try (exfalso; simp only [decide_eq_true_eq, decide_eq_false_iff_not, Bool.not_eq_true', Bool.not_eq_false', Bool.not_eq_true, Bool.not_eq_false, beq_iff_eq, bne_iff_ne, beq_eq_false_iff_ne, bne_eq_false_iff_eq, ne_eq, Decidable.not_not] at *; first | omega | contradiction | (simp_all; done) | (simp_all; omega))
          refine ⟨(k + 1, _), ⟨hlt4, hi1, hi2⟩, show m.length - (k + 1) < m.length - k by omega, ?_⟩
          all_goals refine ⟨[], ?_⟩
          repeat (any_goals (first | exact True.intro | exact rfl | with_reducible_and_instances rfl | exact (by kernel_rfl) | refine And.intro ?_ ?_))
          all_goals conv => whnf
          all_goals exact wk1 (by omega)
        · have hbb : b = decide (rowsL m = rowsL m2) := by
            cases b with
            | false => exact (decide_eq_false (hbf rfl)).symm
            | true =>
              obtain ⟨h1, h2⟩ := hbt rfl
              have hkm : k = m.length := by
                have : ¬ k < m.length := fun h => hlt4 ⟨h, rfl⟩
                omega
              rw [hkm, List.take_of_length_le (by omega), List.take_of_length_le (by omega)] at h2
              exact (decide_eq_true h2).symm
          rw [← hbb] at st st2
          clear hbt hbf hbb
          have hgo : k < m.length → b = false := fun h => by
            cases b with
            | false => rfl
            | true => exact absurd ⟨h, rfl⟩ hlt4
          clear hlt4
          cases b with
          | true =>
            have hke : k = m.length := by
              have : ¬ k < m.length := fun h => by have := hgo h; cases this
              omega
            conv => whnf
            repeat (any_goals (first
              | exact True.intro
              | (refine Or.inl ?_; conv => whnf)
              | (refine And.intro (fun _ => ?_) tf; conv => whnf)
              | (refine And.intro ft (fun _ => ?_); conv => whnf)
              | (refine And.intro (by kernel_rfl) ?_; conv => whnf)
              | (refine And.intro (by decide) ?_; conv => whnf)
              | (refine And.intro (fun _ => ?_) (fun h => absurd h (by decide)); conv => whnf)
              | (refine And.intro (fun h => absurd h (by decide)) (fun _ => ?_); conv => whnf)
              | (refine And.intro (fun _ => ?_) (fun _ => ?_) <;> conv => whnf)
              | (refine ⟨_, _, tl.at2 0 1 rfl rfl rfl rfl rfl, ?_⟩; conv => whnf)
              | (refine ⟨_, _, hT _ _ _ _ _ _, ?_⟩; conv => whnf)
              | (refine ⟨_, _, st.at4 0 1 6 7 rfl rfl rfl rfl rfl rfl rfl, ?_⟩; conv => whnf)
              | (refine ⟨_, _, st2.at4 6 7 0 1 rfl rfl rfl rfl rfl rfl rfl, ?_⟩; conv => whnf)
              | (refine ⟨_, _, sn.at2 0 1 rfl rfl rfl rfl rfl, ?_⟩; conv => whnf)
              | (refine ⟨_, _, eqB (by kernel_rfl), ?_⟩; conv => whnf)))
            all_goals try (exfalso; simp only [decide_eq_true_eq, decide_eq_false_iff_not, Bool.not_eq_true', Bool.not_eq_false', Bool.not_eq_true, Bool.not_eq_false, beq_iff_eq, bne_iff_ne, beq_eq_false_iff_ne, bne_eq_false_iff_eq, ne_eq, Decidable.not_not] at *; first | omega | contradiction | (simp_all; done) | (simp_all; omega))
            all_goals refine ⟨[], ?_⟩
            repeat (any_goals (first | exact True.intro | exact rfl | with_reducible_and_instances rfl | exact (by kernel_rfl) | refine And.intro ?_ ?_))
            all_goals conv => whnf
          | false =>
            conv => whnf
            repeat (any_goals (first
              | exact True.intro
              | (refine Or.inl ?_; conv => whnf)
              | (refine And.intro (fun _ => ?_) tf; conv => whnf)
              | (refine And.intro ft (fun _ => ?_); conv => whnf)
              | (refine And.intro (by kernel_rfl) ?_; conv => whnf)
              | (refine And.intro (by decide) ?_; conv => whnf)
              | (refine And.intro (fun _ => ?_) (fun h => absurd h (by decide)); conv => whnf)
              | (refine And.intro (fun h => absurd h (by decide)) (fun _ => ?_); conv => whnf)
              | (refine And.intro (fun _ => ?_) (fun _ => ?_) <;> conv => whnf)
              | (refine ⟨_, _, tl.at2 0 1 rfl rfl rfl rfl rfl, ?_⟩; conv => whnf)
              | (refine ⟨_, _, hT _ _ _ _ _ _, ?_⟩; conv => whnf)
              | (refine ⟨_, _, st.at4 0 1 6 7 rfl rfl rfl rfl rfl rfl rfl, ?_⟩; conv => whnf)
              | (refine ⟨_, _, st2.at4 6 7 0 1 rfl rfl rfl rfl rfl rfl rfl, ?_⟩; conv => whnf)
              | (refine ⟨_, _, sn.at2 0 1 rfl rfl rfl rfl rfl, ?_⟩; conv => whnf)
              | (refine ⟨_, _, eqB (by kernel_rfl), ?_⟩; conv => whnf)))
            all_goals try (exfalso; simp only [decide_eq_true_eq, decide_eq_false_iff_not, Bool.not_eq_true', Bool.not_eq_false', Bool.not_eq_true, Bool.not_eq_false, beq_iff_eq, bne_iff_ne, beq_eq_false_iff_ne, bne_eq_false_iff_eq, ne_eq, Decidable.not_not] at *; first | omega | contradiction | (simp_all; done) | (simp_all; omega))
            all_goals refine ⟨[], ?_⟩
            repeat (any_goals (first | exact True.intro | exact rfl | with_reducible_and_instances rfl | exact (by kernel_rfl) | refine And.intro ?_ ?_))
            all_goals conv => whnf
  · refine sat_of_vc (T := tiOf Try.prog) (E := E0) Try.func3 rfl rfl hE0 hm0 rfl ?_
    conv => whnf
    repeat (any_goals (first
      | exact True.intro
      | (refine And.intro (fun _ => ?_) tf; conv => whnf)
      | (refine And.intro ft (fun _ => ?_); conv => whnf)
      | (refine And.intro (by kernel_rfl) ?_; conv => whnf)
      | (refine And.intro (by decide) ?_; conv => whnf)
      | (refine And.intro (fun _ => ?_) (fun h => absurd h (by decide)); conv => whnf)
      | (refine And.intro (fun h => absurd h (by decide)) (fun _ => ?_); conv => whnf)
      | (refine And.intro (fun _ => ?_) (fun _ => ?_) <;> conv => whnf)
      | (refine ⟨_, _, aliveL_sat.pu rfl rfl, ?_⟩; conv => whnf)))
    all_goals try (exfalso; simp only [decide_eq_true_eq, decide_eq_false_iff_not, Bool.not_eq_true', Bool.not_eq_false', Bool.not_eq_true, Bool.not_eq_false, beq_iff_eq, bne_iff_ne, beq_eq_false_iff_ne, bne_eq_false_iff_eq, ne_eq, Decidable.not_not] at *; first | omega | contradiction | (simp_all; done) | (simp_all; omega))
    all_goals try (refine Or.inl ?_; conv => whnf)
    repeat (any_goals (first
      | exact True.intro
      | (refine And.intro (fun _ => ?_) tf; conv => whnf)
      | (refine And.intro ft (fun _ => ?_); conv => whnf)
      | (refine And.intro (by kernel_rfl) ?_; conv => whnf)
      | (refine And.intro (by decide) ?_; conv => whnf)
      | (refine And.intro (fun _ => ?_) (fun h => absurd h (by decide)); conv => whnf)
      | (refine And.intro (fun h => absurd h (by decide)) (fun _ => ?_); conv => whnf)
      | (refine And.intro (fun _ => ?_) (fun _ => ?_) <;> conv => whnf)
      | (refine ⟨_, _, aliveL_sat.pu rfl rfl, ?_⟩; conv => whnf)))
    all_goals try (exfalso; simp only [decide_eq_true_eq, decide_eq_false_iff_not, Bool.not_eq_true', Bool.not_eq_false', Bool.not_eq_true, Bool.not_eq_false, beq_iff_eq, bne_iff_ne, beq_eq_false_iff_ne, bne_eq_false_iff_eq, ne_eq, Decidable.not_not] at *; first | omega | contradiction | (simp_all; done) | (simp_all; omega))
    all_goals try (refine Or.inl ?_; conv => whnf)
    repeat (any_goals (first
      | exact True.intro
      | (refine And.intro (fun _ => ?_) tf; conv => whnf)
      | (refine And.intro ft (fun _ => ?_); conv => whnf)
      | (refine And.intro (by kernel_rfl) ?_; conv => whnf)
      | (refine And.intro (by decide) ?_; conv => whnf)
      | (refine And.intro (fun _ => ?_) (fun h => absurd h (by decide)); conv => whnf)
      | (refine And.intro (fun h => absurd h (by decide)) (fun _ => ?_); conv => whnf)
      | (refine And.intro (fun _ => ?_) (fun _ => ?_) <;> conv => whnf)))
    all_goals try (exfalso; simp only [decide_eq_true_eq, decide_eq_false_iff_not, Bool.not_eq_true', Bool.not_eq_false', Bool.not_eq_true, Bool.not_eq_false, beq_iff_eq, bne_iff_ne, beq_eq_false_iff_ne, bne_eq_false_iff_eq, ne_eq, Decidable.not_not] at *; first | omega | contradiction | (simp_all; done) | (simp_all; omega))
    all_goals refine ⟨[], ?_⟩
    repeat (any_goals (first | exact True.intro | exact rfl | with_reducible_and_instances rfl | exact (by kernel_rfl) | refine And.intro ?_ ?_))
    all_goals conv => whnf
theorem calls_law (H : Type) (enc : TypeId × Value → H) : LawWalk H enc Try.prog 3 Try.f3 :=
  lawWalk_of_sat (by kernel_rfl) fun args h => by
    obtain ⟨r, _, rfl, h1, h⟩ := h
    obtain ⟨r2, _, rfl, h2, h⟩ := h
    obtain ⟨t, _, rfl, h3, h⟩ := h
    obtain rfl := h
    obtain ⟨l, rfl, _⟩ := ty_facts h1
    obtain ⟨o, rfl, _⟩ := ty_facts h2
    obtain ⟨t, rfl, ht⟩ := ty_i64 h3 Try.underlying2
    exact calls_sat l o t ht
end Go.Proofs.Ytefidbifgilekaa
/- Two closed facts on the program that every law's statement asks. -/
namespace Go.Proofs.Ytefidbifgilekaa
set_option linter.unusedSimpArgs false
set_option linter.unusedVariables false
open Go.RowKit
theorem own : ownKnob Try.prog.godebug = none := by kernel_rfl
theorem laidOut : laidOutB Try.prog = true := by kernel_rfl
end Go.Proofs.Ytefidbifgilekaa
