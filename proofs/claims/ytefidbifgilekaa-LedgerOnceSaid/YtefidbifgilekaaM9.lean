/- Parts LgP, Laid of the proof, put together. -/
import Derived.Test.YtefidbifgilekaaM8
import Derived.Test.YtefidbifgilekaaChecked
import Derived.Test.YtefidbifgilekaaRows
/- LedgerOnce, its law: an id has the first verdict that it got; in whatever order unlike ids come, the ledger is the same. -/
namespace Go.Proofs.Ytefidbifgilekaa
set_option linter.unusedSimpArgs false
set_option linter.unusedVariables false
open Go.RowKit Go.Sort
set_option maxRecDepth 100000
theorem findX_app {m : Led} {x : Id3} {v : Ver} {c : Nat} (h : findX m x = none) : findX (m ++ [(x, v, c)]) x = some v := by
  unfold findX at *
  rw [Option.map_eq_none_iff] at h
  rw [List.find?_append, h]
  simp
/-- A lookup in a map of verdicts whose answer is known. -/
theorem lg_at {ty n i c : Nat} {L : List AObj} {m : Led} {mx kx : Operand} (x : Id3) {o : Option Ver} (h : findX m x = o) (hi : L[i]? = some (mapO eI eV m c)) : Does Try.prog (.lookup 55 mx kx true) ty L n [.mp i, .d (eI x)] ⟨[i], [], []⟩ (.tup [.d (eV (o.getD (0, 0))), .d (.v (.bool o.isSome))]) := by
  subst h; exact lg_look x hi
set_option maxHeartbeats 4000000 in
theorem once_sat (l : List FactP) (turn : Int) (ht : in64 turn) : Sat Try.prog 4 [.d (.sl 5 (l.map factR)), iA turn] [] (bA true) [] := by
  have hm : (l.map factR).length = l.length := List.length_map _
  by_cases hg : l.length ≤ 60 ∧ 0 ≤ turn ∧ turn ≤ l.length
  · obtain ⟨hlen, ht0, ht1⟩ := hg
    refine sat_of_vc (T := tiOf Try.prog) (E := E0) Try.func4 rfl rfl hE0 hm0 rfl ?_
    conv => whnf
    repeat (any_goals (first
      | exact True.intro
      | (refine And.intro (fun _ => ?_) tf; conv => whnf)
      | (refine And.intro ft (fun _ => ?_); conv => whnf)
      | (refine And.intro (by kernel_rfl) ?_; conv => whnf)
      | (refine And.intro (by decide) ?_; conv => whnf)
      | (refine And.intro (fun _ => ?_) (fun h => absurd h (by decide)); conv => whnf)
      | (refine And.intro (fun h => absurd h (by decide)) (fun _ => ?_); conv => whnf)
      | (refine And.intro (fun _ => ?_) (fun _ => ?_) <;> conv => whnf)
      | (refine ⟨_, _, aliveL_sat.pu rfl rfl, ?_⟩; conv => whnf)))
    all_goals try (exfalso; simp only [decide_eq_true_eq, decide_eq_false_iff_not, Bool.not_eq_true', Bool.not_eq_false', Bool.not_eq_true, Bool.not_eq_false, beq_iff_eq, bne_iff_ne, beq_eq_false_iff_ne, bne_eq_false_iff_eq, ne_eq, Decidable.not_not] at *; first | omega | contradiction | (simp_all; done) | (simp_all; omega))
    all_goals try (refine Or.inl ?_; conv => whnf)
    repeat (any_goals (first
      | exact True.intro
      | (refine And.intro (fun _ => ?_) tf; conv => whnf)
      | (refine And.intro ft (fun _ => ?_); conv => whnf)
      | (refine And.intro (by kernel_rfl) ?_; conv => whnf)
      | (refine And.intro (by decide) ?_; conv => whnf)
      | (refine And.intro (fun _ => ?_) (fun h => absurd h (by decide)); conv => whnf)
      | (refine And.intro (fun h => absurd h (by decide)) (fun _ => ?_); conv => whnf)
      | (refine And.intro (fun _ => ?_) (fun _ => ?_) <;> conv => whnf)
      | (refine ⟨_, _, aliveL_sat.pu rfl rfl, ?_⟩; conv => whnf)))
    all_goals try (exfalso; simp only [decide_eq_true_eq, decide_eq_false_iff_not, Bool.not_eq_true', Bool.not_eq_false', Bool.not_eq_true, Bool.not_eq_false, beq_iff_eq, bne_iff_ne, beq_eq_false_iff_ne, bne_eq_false_iff_eq, ne_eq, Decidable.not_not] at *; first | omega | contradiction | (simp_all; done) | (simp_all; omega))
    all_goals try (refine Or.inl ?_; conv => whnf)
    repeat (any_goals (first
      | exact True.intro
      | (refine And.intro (fun _ => ?_) tf; conv => whnf)
      | (refine And.intro ft (fun _ => ?_); conv => whnf)
      | (refine And.intro (by kernel_rfl) ?_; conv => whnf)
      | (refine And.intro (by decide) ?_; conv => whnf)
      | (refine And.intro (fun _ => ?_) (fun h => absurd h (by decide)); conv => whnf)
      | (refine And.intro (fun h => absurd h (by decide)) (fun _ => ?_); conv => whnf)
      | (refine And.intro (fun _ => ?_) (fun _ => ?_) <;> conv => whnf)
      | (refine ⟨_, _, lg_make, ?_⟩; conv => whnf)
      | (refine ⟨_, _, new_sat.nw rfl, ?_⟩; conv => whnf)
      | (refine ⟨_, _, eqP (by kernel_rfl), ?_⟩; conv => whnf)))
    all_goals try (exfalso; simp only [decide_eq_true_eq, decide_eq_false_iff_not, Bool.not_eq_true', Bool.not_eq_false', Bool.not_eq_true, Bool.not_eq_false, beq_iff_eq, bne_iff_ne, beq_eq_false_iff_ne, bne_eq_false_iff_eq, ne_eq, Decidable.not_not] at *; first | omega | contradiction | (simp_all; done) | (simp_all; omega))
    all_goals try (refine Or.inl ?_; conv => whnf)
    repeat (any_goals (first
      | exact True.intro
      | (refine And.intro (fun _ => ?_) tf; conv => whnf)
      | (refine And.intro ft (fun _ => ?_); conv => whnf)
      | (refine And.intro (by kernel_rfl) ?_; conv => whnf)
      | (refine And.intro (by decide) ?_; conv => whnf)
      | (refine And.intro (fun _ => ?_) (fun h => absurd h (by decide)); conv => whnf)
      | (refine And.intro (fun h => absurd h (by decide)) (fun _ => ?_); conv => whnf)
      | (refine And.intro (fun _ => ?_) (fun _ => ?_) <;> conv => whnf)
      | (refine ⟨_, _, lg_make, ?_⟩; conv => whnf)
      | (refine ⟨_, _, new_sat.nw rfl, ?_⟩; conv => whnf)
      | (refine ⟨_, _, eqP (by kernel_rfl), ?_⟩; conv => whnf)))
    all_goals try (exfalso; simp only [decide_eq_true_eq, decide_eq_false_iff_not, Bool.not_eq_true', Bool.not_eq_false', Bool.not_eq_true, Bool.not_eq_false, beq_iff_eq, bne_iff_ne, beq_eq_false_iff_ne, bne_eq_false_iff_eq, ne_eq, Decidable.not_not] at *; first | omega | contradiction | (simp_all; done) | (simp_all; omega))
    refine Or.inr ⟨Unit, fun _ => True, fun _ => ([(7, .ptr 2 0), (6, .d (.sl 5 (((madeM l).1.map fo).map factR))), (5, .mp 0), (1, iA turn)], [mapO eI eV (madeM l).1 (madeM l).2, .dead, .cells [.mp 3], mapO eI eV (madeM l).1 (madeM l).2]), ?_, fun _ _ => ?_⟩
    · conv => whnf
      repeat (any_goals (first
        | exact True.intro
        | (refine And.intro (fun _ => ?_) tf; conv => whnf)
        | (refine And.intro ft (fun _ => ?_); conv => whnf)
        | (refine And.intro (by kernel_rfl) ?_; conv => whnf)
        | (refine And.intro (by decide) ?_; conv => whnf)
        | (refine And.intro (fun _ => ?_) (fun h => absurd h (by decide)); conv => whnf)
        | (refine And.intro (fun h => absurd h (by decide)) (fun _ => ?_); conv => whnf)
        | (refine And.intro (fun _ => ?_) (fun _ => ?_) <;> conv => whnf)))
      refine ⟨Nat × (Led × Nat), fun y => y.1 ≤ l.length ∧ y.2 = madeM (l.take y.1), fun y => ([(8, iA y.1), (7, .ptr 2 0), (6, .own 1), (5, .mp 0), (1, iA turn), (0, .d (.sl 5 (l.map factR)))], [mapO eI eV y.2.1 y.2.2, .sl 5 ((y.2.1.map fo).map factR), .cells [.mp 3], mapO eI eV y.2.1 y.2.2]), fun y => l.length - y.1, ⟨(0, ([], 0)), ⟨Nat.zero_le _, rfl⟩, ?_⟩, ?_⟩
      · all_goals refine ⟨[], ?_⟩
        repeat (any_goals (first | exact True.intro | exact rfl | with_reducible_and_instances rfl | exact (by kernel_rfl) | refine And.intro ?_ ?_))
        all_goals conv => whnf
      rintro ⟨k, s⟩ ⟨hk, hs⟩
      replace hk : k ≤ l.length := hk
      replace hs : s = madeM (l.take k) := hs
      by_cases hlt : k < l.length
      · have hx : l[k]? = some l[k] := List.getElem?_eq_getElem hlt
        generalize l[k] = f at hx
        obtain ⟨⟨a, b, d⟩, r, z⟩ := f
        have hst := made_take_succ hx
        rw [← hs] at hst
        unfold stepM at hst
        simp only at hst
        have hsl : s.1.length ≤ 60 := by
          have h1 := (made_ok (l.take k)).ln
          rw [← hs, List.length_take] at h1
          omega
        obtain ⟨m, c⟩ := s
        simp only at hst hsl
        clear hs
        have nt := note_sat m c a b d r z
        have os := of_sat m c a b d
        obtain ⟨F, hF⟩ : ∃ F, findX m (a, b, d) = F := ⟨_, rfl⟩
        rw [hF] at os
        have fl := fun L i n ty mx kx (hi : L[i]? = some (mapO eI eV m c)) => lg_at (L := L) (n := n) (ty := ty) (mx := mx) (kx := kx) (a, b, d) hF hi
        have hw : IntKind.i64.wrap ((k : Int) + 1) = ((k + 1 : Nat) : Int) := by rw [wi (by omega) (by omega)]; rfl
        rcases noteR_cases m c a b d (r, z) with ⟨e, hbad⟩ | ⟨_, o, ho, ⟨h1, e⟩ | ⟨h1, e⟩⟩ | ⟨hb, hn, e⟩
        · rw [e] at nt hst
          clear hF
          rcases F with _ | ⟨o1, o2⟩
          · conv => whnf
            repeat (any_goals (first
              | exact True.intro
              | (refine ⟨k, _, rfl, map_get hx, ?_⟩; conv => whnf)
              | (refine Or.inl ?_; conv => whnf)
              | (refine And.intro (fun _ => ?_) tf; conv => whnf)
              | (refine And.intro ft (fun _ => ?_); conv => whnf)
              | (refine And.intro (by kernel_rfl) ?_; conv => whnf)
              | (refine And.intro (by decide) ?_; conv => whnf)
              | (refine And.intro (fun _ => ?_) (fun h => absurd h (by decide)); conv => whnf)
              | (refine And.intro (fun h => absurd h (by decide)) (fun _ => ?_); conv => whnf)
              | (refine And.intro (fun _ => ?_) (fun _ => ?_) <;> conv => whnf)
              | (refine ⟨_, _, nt.at2 2 3 rfl rfl rfl rfl rfl, ?_⟩; conv => whnf)
              | (refine ⟨_, _, os.at2 2 3 rfl rfl rfl rfl rfl, ?_⟩; conv => whnf)
              | (refine ⟨_, _, fl _ _ _ _ _ _ rfl, ?_⟩; conv => whnf)
              | (refine ⟨_, _, neB (by kernel_rfl), ?_⟩; conv => whnf)
              | (refine ⟨_, _, neS (by kernel_rfl), ?_⟩; conv => whnf)))
            all_goals try (exfalso; simp only [decide_eq_true_eq, decide_eq_false_iff_not, Bool.not_eq_true', Bool.not_eq_false', Bool.not_eq_true, Bool.not_eq_false, beq_iff_eq, bne_iff_ne, beq_eq_false_iff_ne, bne_eq_false_iff_eq, ne_eq, Decidable.not_not] at *; first | omega | contradiction | (simp_all; done) | (simp_all; omega))
            refine ⟨(k + 1, (m, c)), ⟨hlt, hst.symm⟩, show l.length - (k + 1) < l.length - k by omega, ?_⟩
            all_goals refine ⟨[], ?_⟩
            repeat (any_goals (first | exact True.intro | exact rfl | with_reducible_and_instances rfl | exact (by kernel_rfl) | refine And.intro ?_ ?_))
            all_goals conv => whnf
            exact wk1 (by omega)
          · conv => whnf
            repeat (any_goals (first
              | exact True.intro
              | (refine ⟨k, _, rfl, map_get hx, ?_⟩; conv => whnf)
              | (refine Or.inl ?_; conv => whnf)
              | (refine And.intro (fun _ => ?_) tf; conv => whnf)
              | (refine And.intro ft (fun _ => ?_); conv => whnf)
              | (refine And.intro (by kernel_rfl) ?_; conv => whnf)
              | (refine And.intro (by decide) ?_; conv => whnf)
              | (refine And.intro (fun _ => ?_) (fun h => absurd h (by decide)); conv => whnf)
              | (refine And.intro (fun h => absurd h (by decide)) (fun _ => ?_); conv => whnf)
              | (refine And.intro (fun _ => ?_) (fun _ => ?_) <;> conv => whnf)
              | (refine ⟨_, _, nt.at2 2 3 rfl rfl rfl rfl rfl, ?_⟩; conv => whnf)
              | (refine ⟨_, _, os.at2 2 3 rfl rfl rfl rfl rfl, ?_⟩; conv => whnf)
              | (refine ⟨_, _, fl _ _ _ _ _ _ rfl, ?_⟩; conv => whnf)
              | (refine ⟨_, _, neB (by kernel_rfl), ?_⟩; conv => whnf)
              | (refine ⟨_, _, neS (by kernel_rfl), ?_⟩; conv => whnf)))
            all_goals try (exfalso; simp only [decide_eq_true_eq, decide_eq_false_iff_not, Bool.not_eq_true', Bool.not_eq_false', Bool.not_eq_true, Bool.not_eq_false, beq_iff_eq, bne_iff_ne, beq_eq_false_iff_ne, bne_eq_false_iff_eq, ne_eq, Decidable.not_not] at *; first | omega | contradiction | (simp_all; done) | (simp_all; omega))
            refine ⟨(k + 1, (m, c)), ⟨hlt, hst.symm⟩, show l.length - (k + 1) < l.length - k by omega, ?_⟩
            all_goals refine ⟨[], ?_⟩
            repeat (any_goals (first | exact True.intro | exact rfl | with_reducible_and_instances rfl | exact (by kernel_rfl) | refine And.intro ?_ ?_))
            all_goals conv => whnf
            exact wk1 (by omega)
        · obtain rfl : F = some o := by rw [← hF, ho]
          subst h1
          rw [e] at nt hst
          clear hF ho
          conv => whnf
          repeat (any_goals (first
            | exact True.intro
            | (refine ⟨k, _, rfl, map_get hx, ?_⟩; conv => whnf)
            | (refine Or.inl ?_; conv => whnf)
            | (refine And.intro (fun _ => ?_) tf; conv => whnf)
            | (refine And.intro ft (fun _ => ?_); conv => whnf)
            | (refine And.intro (by kernel_rfl) ?_; conv => whnf)
            | (refine And.intro (by decide) ?_; conv => whnf)
            | (refine And.intro (fun _ => ?_) (fun h => absurd h (by decide)); conv => whnf)
            | (refine And.intro (fun h => absurd h (by decide)) (fun _ => ?_); conv => whnf)
            | (refine And.intro (fun _ => ?_) (fun _ => ?_) <;> conv => whnf)
            | (refine ⟨_, _, nt.at2 2 3 rfl rfl rfl rfl rfl, ?_⟩; conv => whnf)
            | (refine ⟨_, _, os.at2 2 3 rfl rfl rfl rfl rfl, ?_⟩; conv => whnf)
            | (refine ⟨_, _, fl _ _ _ _ _ _ rfl, ?_⟩; conv => whnf)
            | (refine ⟨_, _, neB (by kernel_rfl), ?_⟩; conv => whnf)
            | (refine ⟨_, _, neS (by kernel_rfl), ?_⟩; conv => whnf)))
          all_goals try (exfalso; simp only [decide_eq_true_eq, decide_eq_false_iff_not, Bool.not_eq_true', Bool.not_eq_false', Bool.not_eq_true, Bool.not_eq_false, beq_iff_eq, bne_iff_ne, beq_eq_false_iff_ne, bne_eq_false_iff_eq, ne_eq, Decidable.not_not] at *; first | omega | contradiction | (simp_all; done) | (simp_all; omega))
          refine ⟨(k + 1, (m, c)), ⟨hlt, hst.symm⟩, show l.length - (k + 1) < l.length - k by omega, ?_⟩
          all_goals refine ⟨[], ?_⟩
          repeat (any_goals (first | exact True.intro | exact rfl | with_reducible_and_instances rfl | exact (by kernel_rfl) | refine And.intro ?_ ?_))
          all_goals conv => whnf
          exact wk1 (by omega)
        · obtain rfl : F = some o := by rw [← hF, ho]
          obtain ⟨o1, o2⟩ := o
          rw [e] at nt hst
          clear hF ho
          conv => whnf
          repeat (any_goals (first
            | exact True.intro
            | (refine ⟨k, _, rfl, map_get hx, ?_⟩; conv => whnf)
            | (refine Or.inl ?_; conv => whnf)
            | (refine And.intro (fun _ => ?_) tf; conv => whnf)
            | (refine And.intro ft (fun _ => ?_); conv => whnf)
            | (refine And.intro (by kernel_rfl) ?_; conv => whnf)
            | (refine And.intro (by decide) ?_; conv => whnf)
            | (refine And.intro (fun _ => ?_) (fun h => absurd h (by decide)); conv => whnf)
            | (refine And.intro (fun h => absurd h (by decide)) (fun _ => ?_); conv => whnf)
            | (refine And.intro (fun _ => ?_) (fun _ => ?_) <;> conv => whnf)
            | (refine ⟨_, _, nt.at2 2 3 rfl rfl rfl rfl rfl, ?_⟩; conv => whnf)
            | (refine ⟨_, _, os.at2 2 3 rfl rfl rfl rfl rfl, ?_⟩; conv => whnf)
            | (refine ⟨_, _, fl _ _ _ _ _ _ rfl, ?_⟩; conv => whnf)
            | (refine ⟨_, _, neB (by kernel_rfl), ?_⟩; conv => whnf)
            | (refine ⟨_, _, neS (by kernel_rfl), ?_⟩; conv => whnf)))
          all_goals try (exfalso; simp only [decide_eq_true_eq, decide_eq_false_iff_not, Bool.not_eq_true', Bool.not_eq_false', Bool.not_eq_true, Bool.not_eq_false, beq_iff_eq, bne_iff_ne, beq_eq_false_iff_ne, bne_eq_false_iff_eq, ne_eq, Decidable.not_not] at *; first | omega | contradiction | (simp_all; done) | (simp_all; omega))
          refine ⟨(k + 1, (m, c)), ⟨hlt, hst.symm⟩, show l.length - (k + 1) < l.length - k by omega, ?_⟩
          all_goals refine ⟨[], ?_⟩
          repeat (any_goals (first | exact True.intro | exact rfl | with_reducible_and_instances rfl | exact (by kernel_rfl) | refine And.intro ?_ ?_))
          all_goals conv => whnf
          exact wk1 (by omega)
        · obtain rfl : F = none := by rw [← hF, hn]
          rw [e] at nt hst
          have hp := putX_none (v := (r, z)) (c := c) hn
          have hc : clkX (a, b, d) m c = c + 1 := by unfold clkX hasX; rw [hn]; rfl
          have hf2 := findX_app (v := (r, z)) (c := c) hn
          have os2 := of_sat (m ++ [((a, b, d), (r, z), c)]) (c + 1) a b d
          rw [hf2] at os2
          have pu := fun L i n ty mx kx vx (hi : L[i]? = some (mapO eI eV m c)) => lg_put (L := L) (n := n) (ty := ty) (mx := mx) (kx := kx) (vx := vx) (a, b, d) (r, z) hi
          rw [hp, hc] at pu
          have fl2 := fun L i n ty mx kx (hi : L[i]? = some (mapO eI eV (m ++ [((a, b, d), (r, z), c)]) (c + 1))) => lg_at (L := L) (n := n) (ty := ty) (mx := mx) (kx := kx) (a, b, d) hf2 hi
          have hb4 : (((m.map fo).map factR).length + 1) * 40 ≤ 140737488355328 := by rw [List.length_map, List.length_map]; omega
          clear hF hn hp hc hf2
          conv => whnf
          repeat (any_goals (first
            | exact True.intro
            | (refine ⟨k, _, rfl, map_get hx, ?_⟩; conv => whnf)
            | (refine Or.inl ?_; conv => whnf)
            | (refine And.intro (fun _ => ?_) tf; conv => whnf)
            | (refine And.intro ft (fun _ => ?_); conv => whnf)
            | (refine And.intro (by kernel_rfl) ?_; conv => whnf)
            | (refine And.intro (by decide) ?_; conv => whnf)
            | (refine And.intro (fun _ => ?_) (fun h => absurd h (by decide)); conv => whnf)
            | (refine And.intro (fun h => absurd h (by decide)) (fun _ => ?_); conv => whnf)
            | (refine And.intro (fun _ => ?_) (fun _ => ?_) <;> conv => whnf)
            | (refine ⟨_, _, nt.at2 2 3 rfl rfl rfl rfl rfl, ?_⟩; conv => whnf)
            | (refine ⟨_, _, os.at2 2 3 rfl rfl rfl rfl rfl, ?_⟩; conv => whnf)
            | (refine ⟨_, _, fl _ _ _ _ _ _ rfl, ?_⟩; conv => whnf)
            | (refine ⟨_, _, neB (by kernel_rfl), ?_⟩; conv => whnf)
            | (refine ⟨_, _, neS (by kernel_rfl), ?_⟩; conv => whnf)
            | (refine ⟨_, _, pu _ _ _ _ _ _ _ rfl, ?_⟩; conv => whnf)
            | (refine ⟨_, _, ap 5 40 (by kernel_rfl) rfl rfl hb4, ?_⟩; conv => whnf)
            | (refine ⟨_, _, os2.at2 2 3 rfl rfl rfl rfl rfl, ?_⟩; conv => whnf)
            | (refine ⟨_, _, fl2 _ _ _ _ _ _ rfl, ?_⟩; conv => whnf)))
          all_goals try (exfalso; simp only [decide_eq_true_eq, decide_eq_false_iff_not, Bool.not_eq_true', Bool.not_eq_false', Bool.not_eq_true, Bool.not_eq_false, beq_iff_eq, bne_iff_ne, beq_eq_false_iff_ne, bne_eq_false_iff_eq, ne_eq, Decidable.not_not] at *; first | omega | contradiction | (simp_all; done) | (simp_all; omega))
          have ea : ((m ++ [((a, b, d), (r, z), c)]).map fo).map factR = (m.map fo).map factR ++ [factR ((a, b, d), (r, z))] := by rw [List.map_append, List.map_append]; rfl
          refine ⟨(k + 1, (m ++ [((a, b, d), (r, z), c)], c + 1)), ⟨hlt, hst.symm⟩, show l.length - (k + 1) < l.length - k by omega, ?_⟩
          refine (show Weak 0 _ _ [(8, iA ((k + 1 : Nat) : Int)), (7, .ptr 2 0), (6, .own 1), (5, .mp 0), (1, iA turn), (0, .d (.sl 5 (l.map factR)))] [mapO eI eV (m ++ [((a, b, d), (r, z), c)]) (c + 1), .sl 5 (((m ++ [((a, b, d), (r, z), c)]).map fo).map factR), .cells [.mp 3], mapO eI eV (m ++ [((a, b, d), (r, z), c)]) (c + 1)] from ?_)
          rw [ea]
          all_goals refine ⟨[(1, 7)], ?_⟩
          repeat (any_goals (first | exact True.intro | exact rfl | with_reducible_and_instances rfl | exact (by kernel_rfl) | refine And.intro ?_ ?_))
          all_goals conv => whnf
          exact wk1 (by omega)
      · have hke : k = l.length := by omega
        subst hke
        rw [List.take_length] at hs
        subst hs
        conv => whnf
        repeat (any_goals (first
          | exact True.intro
          | (refine And.intro (fun _ => ?_) tf; conv => whnf)
          | (refine And.intro ft (fun _ => ?_); conv => whnf)
          | (refine And.intro (by kernel_rfl) ?_; conv => whnf)
          | (refine And.intro (by decide) ?_; conv => whnf)
          | (refine And.intro (fun _ => ?_) (fun h => absurd h (by decide)); conv => whnf)
          | (refine And.intro (fun h => absurd h (by decide)) (fun _ => ?_); conv => whnf)
          | (refine And.intro (fun _ => ?_) (fun _ => ?_) <;> conv => whnf)))
        all_goals try (exfalso; simp only [decide_eq_true_eq, decide_eq_false_iff_not, Bool.not_eq_true', Bool.not_eq_false', Bool.not_eq_true, Bool.not_eq_false, beq_iff_eq, bne_iff_ne, beq_eq_false_iff_ne, bne_eq_false_iff_eq, ne_eq, Decidable.not_not] at *; first | omega | contradiction | (simp_all; done) | (simp_all; omega))
        all_goals try (refine Or.inl ?_; conv => whnf)
        repeat (any_goals (first
          | exact True.intro
          | (refine And.intro (fun _ => ?_) tf; conv => whnf)
          | (refine And.intro ft (fun _ => ?_); conv => whnf)
          | (refine And.intro (by kernel_rfl) ?_; conv => whnf)
          | (refine And.intro (by decide) ?_; conv => whnf)
          | (refine And.intro (fun _ => ?_) (fun h => absurd h (by decide)); conv => whnf)
          | (refine And.intro (fun h => absurd h (by decide)) (fun _ => ?_); conv => whnf)
          | (refine And.intro (fun _ => ?_) (fun _ => ?_) <;> conv => whnf)))
        all_goals try (exfalso; simp only [decide_eq_true_eq, decide_eq_false_iff_not, Bool.not_eq_true', Bool.not_eq_false', Bool.not_eq_true, Bool.not_eq_false, beq_iff_eq, bne_iff_ne, beq_eq_false_iff_ne, bne_eq_false_iff_eq, ne_eq, Decidable.not_not] at *; first | omega | contradiction | (simp_all; done) | (simp_all; omega))
        refine ⟨(), trivial, ?_⟩
        all_goals refine ⟨[], ?_⟩
        repeat (any_goals (first | exact True.intro | exact rfl | with_reducible_and_instances rfl | exact (by kernel_rfl) | refine And.intro ?_ ?_))
        all_goals conv => whnf
    · have hok := made_ok l
      have hgd := made_good l l.length (Nat.le_refl _)
      rw [List.take_length] at hgd
      generalize (madeM l).1 = m at hok hgd ⊢
      generalize (madeM l).2 = c at hok hgd ⊢
      have hml : m.length ≤ 60 := Nat.le_trans hok.ln hlen
      have hrl : ((m.map fo).map factR).length = m.length := by rw [List.length_map, List.length_map]
      have hne : IntKind.i64.wrap ((((m.map fo).map factR).length : Int) + 1) ≠ 0 := by rw [hrl, wi (by omega) (by omega)]; omega
      conv => whnf
      repeat (any_goals (first
        | exact True.intro
        | (refine And.intro hne ?_; conv => whnf)
        | (refine And.intro (fun _ => ?_) tf; conv => whnf)
        | (refine And.intro ft (fun _ => ?_); conv => whnf)
        | (refine And.intro (by kernel_rfl) ?_; conv => whnf)
        | (refine And.intro (by decide) ?_; conv => whnf)
        | (refine And.intro (fun _ => ?_) (fun h => absurd h (by decide)); conv => whnf)
        | (refine And.intro (fun h => absurd h (by decide)) (fun _ => ?_); conv => whnf)
        | (refine And.intro (fun _ => ?_) (fun _ => ?_) <;> conv => whnf)))
      have hw1 : IntKind.i64.wrap ((((m.map fo).map factR).length : Int) + 1) = (m.length : Int) + 1 := by rw [hrl, wi (by omega) (by omega)]
      obtain ⟨K, hK, hKl⟩ : ∃ K : Nat, turn.tmod (IntKind.i64.wrap ((((m.map fo).map factR).length : Int) + 1)) = (K : Int) ∧ K ≤ m.length := by
        rw [hw1, Int.tmod_eq_emod_of_nonneg ht0]
        have h1 := Int.emod_nonneg turn (show (m.length : Int) + 1 ≠ 0 by omega)
        have h2 := Int.emod_lt_of_pos turn (show (0 : Int) < (m.length : Int) + 1 by omega)
        exact ⟨(turn % ((m.length : Int) + 1)).toNat, by omega, by omega⟩
      rw [hK]
      have hKr : K ≤ ((m.map fo).map factR).length := by omega
      have te := turn_eq hok hgd K
      have eU : ((m.map fo).drop K ++ (m.map fo).take K).map factR = ((m.map fo).map factR).drop K ++ ((m.map fo).map factR).take K := by rw [List.map_append, List.map_drop, List.map_take]
      have hUl : ((m.map fo).drop K ++ (m.map fo).take K).length ≤ 60 := by
        rw [List.length_append, List.length_drop, List.length_take, List.length_map]; omega
      have mu := made_sat ((m.map fo).drop K ++ (m.map fo).take K) (by omega)
      rw [eU] at mu
      have hm2 := (made_ok ((m.map fo).drop K ++ (m.map fo).take K)).ln
      generalize (madeM ((m.map fo).drop K ++ (m.map fo).take K)).1 = m2 at te mu hm2
      generalize (madeM ((m.map fo).drop K ++ (m.map fo).take K)).2 = c2 at mu
      have st := same_two (c2 := c2) hok.fr (by omega) (show m2.length ≤ 1000000 by omega)
      rw [te] at st
      have ls := len_sat m c
      have hb1 : (([] : List (List D)).length + (((m.map fo).map factR).drop K).length) * 40 ≤ 140737488355328 := by rw [List.length_drop]; simp; omega
      have hb2 : ((((m.map fo).map factR).drop K).length + (((m.map fo).map factR).take K).length) * 40 ≤ 140737488355328 := by rw [List.length_drop, List.length_take]; omega
      repeat (any_goals (first
        | exact True.intro
        | (refine Or.inl ?_; conv => whnf)
        | (refine And.intro (fun _ => ?_) tf; conv => whnf)
        | (refine And.intro ft (fun _ => ?_); conv => whnf)
        | (refine And.intro (by kernel_rfl) ?_; conv => whnf)
        | (refine And.intro (by decide) ?_; conv => whnf)
        | (refine And.intro (fun _ => ?_) (fun h => absurd h (by decide)); conv => whnf)
        | (refine And.intro (fun h => absurd h (by decide)) (fun _ => ?_); conv => whnf)
        | (refine And.intro (fun _ => ?_) (fun _ => ?_) <;> conv => whnf)
        | (refine ⟨_, _, from_d 5 40 (by kernel_rfl) hKr, ?_⟩; conv => whnf)
        | (refine ⟨_, _, upto_d 5 40 (by kernel_rfl) hKr, ?_⟩; conv => whnf)
        | (refine ⟨_, _, apd 5 40 (by kernel_rfl) rfl hb1, ?_⟩; conv => whnf)
        | (refine ⟨_, _, apd 5 40 (by kernel_rfl) rfl hb2, ?_⟩; conv => whnf)
        | (refine ⟨_, _, mu.frzNew rfl, ?_⟩; conv => whnf)
        | (refine ⟨_, _, neP (by kernel_rfl), ?_⟩; conv => whnf)
        | (refine ⟨_, _, st.at4 2 3 7 8 rfl rfl rfl rfl rfl rfl rfl, ?_⟩; conv => whnf)
        | (refine ⟨_, _, ls.at2 2 3 rfl rfl rfl rfl rfl, ?_⟩; conv => whnf)
        | (refine ⟨_, _, lg_len rfl, ?_⟩; conv => whnf)))
      all_goals refine ⟨[], ?_⟩
      repeat (any_goals (first | exact True.intro | exact rfl | with_reducible_and_instances rfl | exact (by kernel_rfl) | refine And.intro ?_ ?_))
      all_goals conv => whnf
      all_goals exact congrArg (fun b => (.d (.v (.bool b)) : AV)) (show ((m.length : Int) == (m.length : Int)) = true by simp)
  · refine sat_of_vc (T := tiOf Try.prog) (E := E0) Try.func4 rfl rfl hE0 hm0 rfl ?_
    conv => whnf
    repeat (any_goals (first
      | exact True.intro
      | (refine And.intro (fun _ => ?_) tf; conv => whnf)
      | (refine And.intro ft (fun _ => ?_); conv => whnf)
      | (refine And.intro (by kernel_rfl) ?_; conv => whnf)
      | (refine And.intro (by decide) ?_; conv => whnf)
      | (refine And.intro (fun _ => ?_) (fun h => absurd h (by decide)); conv => whnf)
      | (refine And.intro (fun h => absurd h (by decide)) (fun _ => ?_); conv => whnf)
      | (refine And.intro (fun _ => ?_) (fun _ => ?_) <;> conv => whnf)
      | (refine ⟨_, _, aliveL_sat.pu rfl rfl, ?_⟩; conv => whnf)))
    all_goals try (exfalso; simp only [decide_eq_true_eq, decide_eq_false_iff_not, Bool.not_eq_true', Bool.not_eq_false', Bool.not_eq_true, Bool.not_eq_false, beq_iff_eq, bne_iff_ne, beq_eq_false_iff_ne, bne_eq_false_iff_eq, ne_eq, Decidable.not_not] at *; first | omega | contradiction | (simp_all; done) | (simp_all; omega))
    all_goals try (refine Or.inl ?_; conv => whnf)
    repeat (any_goals (first
      | exact True.intro
      | (refine And.intro (fun _ => ?_) tf; conv => whnf)
      | (refine And.intro ft (fun _ => ?_); conv => whnf)
      | (refine And.intro (by kernel_rfl) ?_; conv => whnf)
      | (refine And.intro (by decide) ?_; conv => whnf)
      | (refine And.intro (fun _ => ?_) (fun h => absurd h (by decide)); conv => whnf)
      | (refine And.intro (fun h => absurd h (by decide)) (fun _ => ?_); conv => whnf)
      | (refine And.intro (fun _ => ?_) (fun _ => ?_) <;> conv => whnf)
      | (refine ⟨_, _, aliveL_sat.pu rfl rfl, ?_⟩; conv => whnf)))
    all_goals try (exfalso; simp only [decide_eq_true_eq, decide_eq_false_iff_not, Bool.not_eq_true', Bool.not_eq_false', Bool.not_eq_true, Bool.not_eq_false, beq_iff_eq, bne_iff_ne, beq_eq_false_iff_ne, bne_eq_false_iff_eq, ne_eq, Decidable.not_not] at *; first | omega | contradiction | (simp_all; done) | (simp_all; omega))
    all_goals try (refine Or.inl ?_; conv => whnf)
    repeat (any_goals (first
      | exact True.intro
      | (refine And.intro (fun _ => ?_) tf; conv => whnf)
      | (refine And.intro ft (fun _ => ?_); conv => whnf)
      | (refine And.intro (by kernel_rfl) ?_; conv => whnf)
      | (refine And.intro (by decide) ?_; conv => whnf)
      | (refine And.intro (fun _ => ?_) (fun h => absurd h (by decide)); conv => whnf)
      | (refine And.intro (fun h => absurd h (by decide)) (fun _ => ?_); conv => whnf)
      | (refine And.intro (fun _ => ?_) (fun _ => ?_) <;> conv => whnf)))
    all_goals try (exfalso; simp only [decide_eq_true_eq, decide_eq_false_iff_not, Bool.not_eq_true', Bool.not_eq_false', Bool.not_eq_true, Bool.not_eq_false, beq_iff_eq, bne_iff_ne, beq_eq_false_iff_ne, bne_eq_false_iff_eq, ne_eq, Decidable.not_not] at *; first | omega | contradiction | (simp_all; done) | (simp_all; omega))
    all_goals refine ⟨[], ?_⟩
    repeat (any_goals (first | exact True.intro | exact rfl | with_reducible_and_instances rfl | exact (by kernel_rfl) | refine And.intro ?_ ?_))
    all_goals conv => whnf
theorem once_law (H : Type) (enc : TypeId × Value → H) : LawWalk H enc Try.prog 4 Try.f4 :=
  lawWalk_of_sat (by kernel_rfl) fun args h => by
    obtain ⟨r, _, rfl, h1, h⟩ := h
    obtain ⟨t, _, rfl, h2, h⟩ := h
    obtain rfl := h
    obtain ⟨l, rfl, _⟩ := ty_facts h1
    obtain ⟨t, rfl, ht⟩ := ty_i64 h2 Try.underlying3
    exact once_sat l t ht
end Go.Proofs.Ytefidbifgilekaa
/- Two closed facts on the program that every law's statement asks. -/
namespace Go.Proofs.Ytefidbifgilekaa
set_option linter.unusedSimpArgs false
set_option linter.unusedVariables false
open Go.RowKit
theorem own : ownKnob Try.prog.godebug = none := by kernel_rfl
theorem laidOut : laidOutB Try.prog = true := by kernel_rfl
end Go.Proofs.Ytefidbifgilekaa
