/- Parts AgZ, Laid of the proof, put together. -/
import Derived.Test.YtfbfpnfgabamfaaGreatM16
import Derived.Test.YtfbfpnfgabamfaaGreatChecked
import Derived.Test.YtfbfpnfgabamfaaGreatRows
namespace Go.Proofs.YtfbfpnfgabamfaaGreat
set_option linter.unusedSimpArgs false
open Go.RowKit
set_option maxRecDepth 100000
set_option linter.unusedVariables false
theorem observe_probes (a : Ag) (r : Int) : (observeA a r).1.probes = a.probes := by
  unfold observeA
  split
  · rfl
  · split <;> rfl
theorem frs_rows {a : Ag} {i : Nat} {f : Fr} (h : (frsA a)[i]? = some f) : ((sentA a).map fun b => [bsD b])[i]? = some [bsD (encodeT f)] := by
  rw [sent_frs, List.map_map, List.getElem?_map, h]
  rfl
theorem sends_len (a : Ag) : ((sentA a).map fun b => ([bsD b] : List D)).length = (frsA a).length := by
  rw [List.length_map, sent_frs, List.length_map]
set_option maxHeartbeats 32000000 in
theorem sends_sat (id most : Int) (l : List Cl) (reading : Int) (hid : in64 id) (hm : in64 most) (hl : ∀ c ∈ l, clIn c) : Sat Tryz.prog 5 [iA id, iA most, .d (.sl 7 (l.map clR)), iA reading] [] (bA true) [] := by
  have a1 := alive14
  have g1 := great14_sat l
  cases hg : greatC l with
  | true =>
    rw [hg] at g1
    refine sat_of_vc (T := tiOf Tryz.prog) (E := E0) Tryz.func5 rfl rfl hE0 hm0 rfl ?_
    conv => whnf
    iterate 4
      repeat' (first | exact True.intro | ((first | refine Yb fun _ => ?_ | refine Yc fun _ => ?_ | refine Ya (by kernel_rfl) ?_ | refine Ya (by decide) ?_ | refine Yd (by decide) fun _ => ?_ | refine Ye (by decide) fun _ => ?_ | refine ⟨_, _, a1.pu rfl rfl, ?_⟩ | refine ⟨_, _, g1.pu rfl rfl, ?_⟩); conv => whnf) | (refine Ya (fun _ => ?_) (fun _ => ?_) <;> conv => whnf))
      all_goals try (refine Or.inl ?_; conv => whnf)
    all_goals refine ⟨[], ?_⟩
    repeat (any_goals (first | exact True.intro | exact rfl | exact (by kernel_rfl) | refine Ya ?_ ?_))
    all_goals conv => whnf
  | false =>
  rw [hg] at g1
  obtain ⟨h60, hok⟩ := greatC_no hg hl
  by_cases hno : id < 0 ∨ 64 ≤ id ∨ most < 1 ∨ 1024 < most
  · have n1 := agNew_no id most hno
    refine sat_of_vc (T := tiOf Tryz.prog) (E := E0) Tryz.func5 rfl rfl hE0 hm0 rfl ?_
    conv => whnf
    iterate 6
      repeat' (first | exact True.intro | ((first | refine Yb fun _ => ?_ | refine Yc fun _ => ?_ | refine Ya (by kernel_rfl) ?_ | refine Ya (by decide) ?_ | refine Yd (by decide) fun _ => ?_ | refine Ye (by decide) fun _ => ?_ | refine ⟨_, _, a1.pu rfl rfl, ?_⟩ | refine ⟨_, _, g1.pu rfl rfl, ?_⟩ | refine ⟨_, _, n1.pu rfl rfl, ?_⟩ | refine ⟨_, _, eqN (by kernel_rfl), ?_⟩); conv => whnf) | (refine Ya (fun _ => ?_) (fun _ => ?_) <;> conv => whnf))
      all_goals try (refine Or.inl ?_; conv => whnf)
    all_goals refine ⟨[], ?_⟩
    repeat (any_goals (first | exact True.intro | exact rfl | exact (by kernel_rfl) | refine Ya ?_ ?_))
    all_goals conv => whnf
  have n1 := agNew_ok id most hno
  have hml : (l.map clR).length = l.length := List.length_map _
  have hi0 : AgInv (newA id most 0) := newA_inv ⟨by omega, by omega⟩ ⟨by omega, by omega⟩ ⟨by decide, by decide⟩
  refine sat_of_vc (T := tiOf Tryz.prog) (E := E0) Tryz.func5 rfl rfl hE0 hm0 rfl ?_
  conv => whnf
  iterate 6
    repeat' (first | exact True.intro | ((first | refine Yb fun _ => ?_ | refine Yc fun _ => ?_ | refine Ya (by kernel_rfl) ?_ | refine Ya (by decide) ?_ | refine Yd (by decide) fun _ => ?_ | refine Ye (by decide) fun _ => ?_ | refine ⟨_, _, a1.pu rfl rfl, ?_⟩ | refine ⟨_, _, g1.pu rfl rfl, ?_⟩ | refine ⟨_, _, n1.nw rfl, ?_⟩ | refine ⟨_, _, eqP (by kernel_rfl), ?_⟩); conv => whnf) | (refine Ya (fun _ => ?_) (fun _ => ?_) <;> conv => whnf))
    all_goals try (refine Or.inl ?_; conv => whnf)
  refine ⟨Nat × Ag, fun z => z.1 ≤ l.length ∧ z.2 = playA (newA id most 0) (l.take z.1), fun z => ([(11, iA z.1), (9, .ptr 0 0), (3, iA reading), (2, .d (.sl 7 (l.map clR))), (0, iA id)], agH z.2), fun z => l.length - z.1, ⟨(0, newA id most 0), ⟨Nat.zero_le _, rfl⟩, ?_⟩, ?_⟩
  · all_goals refine ⟨[], ?_⟩
    repeat (any_goals (first | exact True.intro | exact rfl | exact (by kernel_rfl) | refine Ya ?_ ?_))
    all_goals conv => whnf
  rintro ⟨i, A⟩ ⟨hi, hA⟩
  have hi : i ≤ l.length := hi
  have hA : A = playA (newA id most 0) (l.take i) := hA
  have hii : AgInv A := by rw [hA]; exact play_take hi0 hok i
  by_cases hlt : i < l.length
  · have hx : l[i]? = some l[i] := List.getElem?_eq_getElem hlt
    generalize l[i] = x at hx
    have hgx := map_get (f := clR) hx
    have hox := hok x (List.mem_of_getElem? hx)
    have hnx := playA_next (a := newA id most 0) hx
    rw [← hA] at hnx
    have d1 : decide ((i : Int) < ((l.map clR).length : Nat)) = true := decide_eq_true (by rw [hml]; omega)
    have q1 := do_sat _ hii x hox
    conv => whnf
    iterate 5
      repeat' (first | exact True.intro | ((first | refine ⟨i, _, rfl, hgx, ?_⟩ | refine Yb fun _ => ?_ | refine Yc fun _ => ?_ | refine Ya (by kernel_rfl) ?_ | refine Ya (by decide) ?_ | refine Yd (by decide) fun _ => ?_ | refine Ye (by decide) fun _ => ?_ | refine ⟨_, _, q1.at3 0 1 2 rfl rfl rfl rfl rfl rfl, ?_⟩); conv => whnf) | (refine Ya (fun _ => ?_) (fun _ => ?_) <;> conv => whnf))
      all_goals try (refine Or.inl ?_; conv => whnf)
    all_goals try exact (bnl d1 ‹_›).elim
    refine ⟨(i + 1, doA A x), ⟨hlt, hnx.symm⟩, show l.length - (i + 1) < l.length - i by omega, ?_⟩
    all_goals refine ⟨[(1, 3), (2, 4)], ?_⟩
    repeat (any_goals (first | exact True.intro | exact rfl | exact (by kernel_rfl) | refine Ya ?_ ?_))
    all_goals conv => whnf
    exact wk1 (by omega)
  have d1 : decide ((i : Int) < ((l.map clR).length : Nat)) = false := decide_eq_false (by rw [hml]; omega)
  have hpi := (play_id (l.take i) (newA id most 0)).1
  rw [← hA] at hpi
  have hpi : A.id = id := hpi
  clear hA hi hlt
  have p1 := agProbes_sat A
  have hpl := hii.pl
  have hoi := observe_inv hii reading
  have hop := observe_probes A reading
  have hid2 := (observe_id A reading).1.trans hpi
  by_cases he : (observeA A reading).2 = 0
  case neg =>
    have s1 := step_err A reading he
    have d2 := ne0 he
    conv => whnf
    iterate 8
      repeat' (first | exact True.intro | ((first | refine Yb fun _ => ?_ | refine Yc fun _ => ?_ | refine Ya (by kernel_rfl) ?_ | refine Ya (by decide) ?_ | refine Yd (by decide) fun _ => ?_ | refine Ye (by decide) fun _ => ?_ | refine ⟨_, _, p1.at3 0 1 2 rfl rfl rfl rfl rfl rfl, ?_⟩ | refine ⟨_, _, s1.at3 0 1 2 rfl rfl rfl rfl rfl rfl, ?_⟩); conv => whnf) | (refine Ya (fun _ => ?_) (fun _ => ?_) <;> conv => whnf))
      all_goals try (refine Or.inl ?_; conv => whnf)
    all_goals try exact (bnl ‹_› d1).elim
    all_goals try exact (bnl d2 ‹_›).elim
    all_goals refine ⟨[], ?_⟩
    repeat (any_goals (first | exact True.intro | exact rfl | exact (by kernel_rfl) | refine Ya ?_ ?_))
    all_goals conv => whnf
  have hrow := fun (i : Nat) (f : Fr) => frs_rows (a := (observeA A reading).1) (i := i) (f := f)
  have hsl := sends_len (observeA A reading).1
  have hdec := fun (f : Fr) (hf : f ∈ frsA (observeA A reading).1) => frs_dec hoi hf
  have hfok := fun (f : Fr) (hf : f ∈ frsA (observeA A reading).1) => frs_fok hoi hf
  have hh := step_hello A reading he hoi
  have hrn := step_run A reading he hoi
  generalize (observeA A reading).1 = O at *
  subst hid2
  have hkl : O.kept.length ≤ 1024 := by have := hoi.len; have := hoi.most; omega
  have hmk : (O.kept.map evR).length = O.kept.length := List.length_map _
  have hll : ∀ x ∈ O.kept, x.2.2.2.length ≤ 1000 := fun x hx => by have := lab_len hoi hx; omega
  have hfi := hoi.first
  have hse := hoi.seq
  have hfd : firstA O = O.seq - (O.kept.length : Int) := rfl
  have w1 : IntKind.i64.wrap ((A.probes.length : Int) + 1) = ((A.probes.length + 1 : Nat) : Int) := by rw [wi (by omega) (by omega)]; omega
  have w2 : IntKind.i64.wrap (((A.probes.length + 1 : Nat) : Int) + 1) = ((A.probes.length + 2 : Nat) : Int) := by rw [wi (by omega) (by omega)]; omega
  have dii : (O.id != O.id) = false := by simp
  have dee : (O.epoch != O.epoch) = false := by simp
  by_cases hep : O.epoch = 0
  case pos =>
    have s1 := hh hep
    have eF : frsA O = [helloF O] := if_pos hep
    have hsent : [[bsD (encodeT (helloF O))]] = (sentA O).map fun b => [bsD b] := by rw [sent_frs, eF]; rfl
    rw [hsent] at s1
    have hW : ((sentA O).map fun b => ([bsD b] : List D)).length = 1 := by rw [hsl, eF]; simp
    have r1 := agEpoch_sat (O)
    have r2 := agProbes_sat (O)
    have r3 := kept_sat (O) (by show O.kept.length ≤ _; omega) hll
    have r4 := agBoot_sat (O)
    have dl : ((((sentA O).map fun b => ([bsD b] : List D)).length : Int) != 1) = false := by rw [hW]; simp
    have dz : (O.epoch == 0) = true := by rw [beq_iff_eq]; exact hep
    have dn : (O.epoch != 0) = false := by rw [bneI, decide_eq_false (fun h => h hep)]
    conv => whnf
    iterate 12
      repeat' (first | exact True.intro | ((first | rw [w1] | rw [w2] | refine Yb fun _ => ?_ | refine Yc fun _ => ?_ | refine Ya (by kernel_rfl) ?_ | refine Ya (by decide) ?_ | refine Yd (by decide) fun _ => ?_ | refine Ye (by decide) fun _ => ?_ | refine ⟨_, _, p1.at3 0 1 2 rfl rfl rfl rfl rfl rfl, ?_⟩ | refine ⟨_, _, s1.at3 0 1 2 rfl rfl rfl rfl rfl rfl, ?_⟩ | refine ⟨_, _, CallOK.frzO (r3.at3 0 3 5 rfl rfl rfl rfl rfl rfl), ?_⟩ | refine ⟨_, _, r1.at3 0 3 5 rfl rfl rfl rfl rfl rfl, ?_⟩ | refine ⟨_, _, r2.at3 0 3 5 rfl rfl rfl rfl rfl rfl, ?_⟩); conv => whnf) | (refine Ya (fun _ => ?_) (fun _ => ?_) <;> conv => whnf))
      all_goals try (refine Or.inl ?_; conv => whnf)
    all_goals try exact (bnl ‹_› d1).elim
    all_goals try exact (bnl ‹_› dl).elim
    all_goals try exact (bnl dz ‹_›).elim
    all_goals try exact (bnl ‹_› dn).elim
    all_goals
      refine ⟨Nat, fun j => j ≤ 1, fun j => ([(17, iA j), (16, iA (1 : Nat)), (15, .d (.sl 4 (O.kept.map evR))), (13, .own 4), (12, iA A.probes.length), (9, .ptr 0 0), (0, iA O.id)], [.cells (agC (O) (.own 3) (.own 5)), .dead, .dead, .sl 4 (O.kept.map evR), .sl 1 ((sentA O).map fun b => [bsD b]), .sl 3 (((O : Ag)).probes.map prR), .dead]), fun j => 1 - j, ⟨0, Nat.zero_le _, ?_⟩, ?_⟩
      · all_goals refine ⟨[], ?_⟩
        repeat (any_goals (first | exact True.intro | exact rfl | exact (by kernel_rfl) | refine Ya ?_ ?_))
        all_goals conv => whnf
      intro j hj
      have hj : j ≤ 1 := hj
      by_cases hjl : j < 1
      case neg =>
        have d3 : decide ((j : Int) < (((sentA O).map fun b => ([bsD b] : List D)).length : Nat)) = false := decide_eq_false (by rw [hW]; omega)
        conv => whnf
        iterate 5
          repeat' (first | exact True.intro | ((first | refine Yb fun _ => ?_ | refine Yc fun _ => ?_ | refine Ya (by kernel_rfl) ?_ | refine Ya (by decide) ?_ | refine Yd (by decide) fun _ => ?_ | refine Ye (by decide) fun _ => ?_); conv => whnf) | (refine Ya (fun _ => ?_) (fun _ => ?_) <;> conv => whnf))
          all_goals try (refine Or.inl ?_; conv => whnf)
        all_goals try exact (bnl ‹_› d3).elim
        all_goals refine ⟨[], ?_⟩
        repeat (any_goals (first | exact True.intro | exact rfl | exact (by kernel_rfl) | refine Ya ?_ ?_))
        all_goals conv => whnf
      have d3 : decide ((j : Int) < (((sentA O).map fun b => ([bsD b] : List D)).length : Nat)) = true := decide_eq_true (by rw [hW]; omega)
      have hj0 : j = 0 := by omega
      have hf : (frsA O)[j]? = some (helloF O) := by rw [eF, hj0]; rfl
      have hm := List.mem_of_getElem? hf
      have hgx := hrow j _ hf
      have hd := hdec _ hm
      have dc := decode_sat (encodeT (helloF O))
      rw [hd] at dc
      have dg : ((((helloF O, 0) : Fr × Nat).2 : Int) != 0) = false := rfl
      have db : (!(O.boot == O.boot)) = false := by simp
      conv => whnf
      iterate 14
        repeat' (first | exact True.intro | ((first | refine ⟨j, rfl, (by rw [hW]; exact hjl), ?_⟩ | refine ⟨_, hgx, ?_⟩ | refine Yb fun _ => ?_ | refine Yc fun _ => ?_ | refine Ya (by kernel_rfl) ?_ | refine Ya (by decide) ?_ | refine Yd (by decide) fun _ => ?_ | refine Ye (by decide) fun _ => ?_ | refine ⟨_, _, dc.pu rfl rfl, ?_⟩ | refine ⟨_, _, r1.at3 0 3 5 rfl rfl rfl rfl rfl rfl, ?_⟩ | refine ⟨_, _, r4.at3 0 3 5 rfl rfl rfl rfl rfl rfl, ?_⟩); conv => whnf) | (refine Ya (fun _ => ?_) (fun _ => ?_) <;> conv => whnf))
        all_goals try (refine Or.inl ?_; conv => whnf)
      all_goals try exact (bnl d3 ‹_›).elim
      all_goals try exact (bnl ‹_› dg).elim
      all_goals try exact (bnl ‹_› dii).elim
      all_goals try exact (bnl ‹_› dee).elim
      all_goals try exact (bnl dz ‹_›).elim
      all_goals try exact (bnl ‹_› db).elim
      refine ⟨j + 1, hjl, show 1 - (j + 1) < 1 - j by omega, ?_⟩
      all_goals refine ⟨[(7, 7)], ?_⟩
      repeat (any_goals (first | exact True.intro | exact rfl | exact (by kernel_rfl) | refine Ya ?_ ?_))
      all_goals conv => whnf
      exact wk1 (by omega)
  by_cases hke : O.kept = []
  case pos =>
    have s1 := hrn hep
    have eF : frsA O = O.probes.map (replyF O) ++ [beatF O] := by unfold frsA; rw [if_neg hep, if_pos hke]; rfl
    have hW : ((sentA O).map fun b => ([bsD b] : List D)).length = (A.probes.length + 1) := by rw [hsl, eF]; simp [hop]
    have r1 := agEpoch_sat ({ O with probes := [] })
    have r2 := agProbes_sat ({ O with probes := [] })
    have r3 := kept_sat ({ O with probes := [] }) (by show O.kept.length ≤ _; omega) hll
    have r5 := agClock_sat ({ O with probes := [] })
    have r6 := agSeq_sat ({ O with probes := [] })
    have dl : ((((sentA O).map fun b => ([bsD b] : List D)).length : Int) != ((A.probes.length + 1 : Nat) : Int)) = false := by rw [hW]; simp
    have dz : (O.epoch == 0) = false := by rw [beqI, decide_eq_false hep]
    have dk : decide (((O.kept.map evR).length : Int) > 0) = false := decide_eq_false (by rw [hmk, hke]; decide)
    conv => whnf
    iterate 12
      repeat' (first | exact True.intro | ((first | rw [w1] | rw [w2] | refine Yb fun _ => ?_ | refine Yc fun _ => ?_ | refine Ya (by kernel_rfl) ?_ | refine Ya (by decide) ?_ | refine Yd (by decide) fun _ => ?_ | refine Ye (by decide) fun _ => ?_ | refine ⟨_, _, p1.at3 0 1 2 rfl rfl rfl rfl rfl rfl, ?_⟩ | refine ⟨_, _, s1.at3 0 1 2 rfl rfl rfl rfl rfl rfl, ?_⟩ | refine ⟨_, _, CallOK.frzO (r3.at3 0 3 5 rfl rfl rfl rfl rfl rfl), ?_⟩ | refine ⟨_, _, r1.at3 0 3 5 rfl rfl rfl rfl rfl rfl, ?_⟩ | refine ⟨_, _, r2.at3 0 3 5 rfl rfl rfl rfl rfl rfl, ?_⟩); conv => whnf) | (refine Ya (fun _ => ?_) (fun _ => ?_) <;> conv => whnf))
      all_goals try (refine Or.inl ?_; conv => whnf)
    all_goals try exact (bnl ‹_› d1).elim
    all_goals try exact (bnl ‹_› dl).elim
    all_goals try exact (bnl ‹_› dz).elim
    all_goals try exact (bnl ‹_› dk).elim
    all_goals
      refine ⟨Nat, fun j => j ≤ A.probes.length + 1, fun j => ([(17, iA j), (16, iA (A.probes.length + 1 : Nat)), (15, .d (.sl 4 (O.kept.map evR))), (13, .own 4), (12, iA A.probes.length), (9, .ptr 0 0), (0, iA O.id)], [.cells (agC ({ O with probes := [] }) (.own 3) (.own 5)), .dead, .dead, .sl 4 (O.kept.map evR), .sl 1 ((sentA O).map fun b => [bsD b]), .sl 3 ((({ O with probes := [] } : Ag)).probes.map prR), .dead]), fun j => A.probes.length + 1 - j, ⟨0, Nat.zero_le _, ?_⟩, ?_⟩
      · all_goals refine ⟨[], ?_⟩
        repeat (any_goals (first | exact True.intro | exact rfl | exact (by kernel_rfl) | refine Ya ?_ ?_))
        all_goals conv => whnf
      intro j hj
      have hj : j ≤ A.probes.length + 1 := hj
      by_cases hjl : j < A.probes.length + 1
      case neg =>
        have d3 : decide ((j : Int) < (((sentA O).map fun b => ([bsD b] : List D)).length : Nat)) = false := decide_eq_false (by rw [hW]; omega)
        conv => whnf
        iterate 5
          repeat' (first | exact True.intro | ((first | refine Yb fun _ => ?_ | refine Yc fun _ => ?_ | refine Ya (by kernel_rfl) ?_ | refine Ya (by decide) ?_ | refine Yd (by decide) fun _ => ?_ | refine Ye (by decide) fun _ => ?_); conv => whnf) | (refine Ya (fun _ => ?_) (fun _ => ?_) <;> conv => whnf))
          all_goals try (refine Or.inl ?_; conv => whnf)
        all_goals try exact (bnl ‹_› d3).elim
        all_goals refine ⟨[], ?_⟩
        repeat (any_goals (first | exact True.intro | exact rfl | exact (by kernel_rfl) | refine Ya ?_ ?_))
        all_goals conv => whnf
      have d3 : decide ((j : Int) < (((sentA O).map fun b => ([bsD b] : List D)).length : Nat)) = true := decide_eq_true (by rw [hW]; omega)
      have hlp : (O.probes.map (replyF O)).length = A.probes.length := by rw [List.length_map, hop]
      have dcc : (O.clock == O.clock) = true := by simp
      have dss : (O.seq == O.seq) = true := by simp
      have dnc : (!(O.clock == O.clock)) = false := by simp
      have hww : IntKind.i64.wrap (((A.probes.length + 1 : Nat) : Int) - 1) = ((A.probes.length + 0 : Nat) : Int) := by rw [wi (by omega) (by omega)]; omega
      by_cases hjp : j < A.probes.length
      · have hpp : O.probes[j]? = some (O.probes[j]'(by rw [hop]; exact hjp)) := List.getElem?_eq_getElem (by rw [hop]; exact hjp)
        have hpg := (hoi.pr _ (List.mem_of_getElem? hpp)).2.2.2
        generalize O.probes[j]'_ = p at hpp hpg
        have hf : (frsA O)[j]? = some (replyF O p) := by rw [eF, List.getElem?_append_left (by rw [hlp]; exact hjp), List.getElem?_map, hpp]; rfl
        have hm := List.mem_of_getElem? hf
        have hgx := hrow j _ hf
        have hd := hdec _ hm
        have dc := decode_sat (encodeT (replyF O p))
        rw [hd] at dc
        have dg : ((((replyF O p, 0) : Fr × Nat).2 : Int) != 0) = false := rfl
        have d5 : decide ((j : Int) < (A.probes.length : Int)) = true := decide_eq_true (by omega)
        have d6 : (!decide (p.2.2 ≤ O.clock)) = false := by rw [decide_eq_true hpg]; rfl
        conv => whnf
        iterate 14
          repeat' (first | exact True.intro | ((first | rw [hww] | refine ⟨j, rfl, (by rw [hW]; exact hjl), ?_⟩ | refine ⟨_, hgx, ?_⟩ | refine Yb fun _ => ?_ | refine Yc fun _ => ?_ | refine Ya (by kernel_rfl) ?_ | refine Ya (by decide) ?_ | refine Yd (by decide) fun _ => ?_ | refine Ye (by decide) fun _ => ?_ | refine ⟨_, _, dc.pu rfl rfl, ?_⟩ | refine ⟨_, _, r1.at3 0 3 5 rfl rfl rfl rfl rfl rfl, ?_⟩ | refine ⟨_, _, r5.at3 0 3 5 rfl rfl rfl rfl rfl rfl, ?_⟩); conv => whnf) | (refine Ya (fun _ => ?_) (fun _ => ?_) <;> conv => whnf))
          all_goals try (refine Or.inl ?_; conv => whnf)
        all_goals try exact (bnl d3 ‹_›).elim
        all_goals try exact (bnl ‹_› dg).elim
        all_goals try exact (bnl ‹_› dii).elim
        all_goals try exact (bnl ‹_› dee).elim
        all_goals try exact (bnl ‹_› dz).elim
        all_goals try exact (bnl d5 ‹_›).elim
        all_goals try exact (bnl dcc ‹_›).elim
        all_goals try exact (bnl ‹_› d6).elim
        refine ⟨j + 1, hjl, show A.probes.length + 1 - (j + 1) < A.probes.length + 1 - j by omega, ?_⟩
        all_goals refine ⟨[(7, 7)], ?_⟩
        repeat (any_goals (first | exact True.intro | exact rfl | exact (by kernel_rfl) | refine Ya ?_ ?_))
        all_goals conv => whnf
        exact wk1 (by omega)
      have d5 : decide ((j : Int) < (A.probes.length : Int)) = false := decide_eq_false (by omega)
      have hf : (frsA O)[j]? = some (beatF O) := by
        obtain rfl : j = A.probes.length := by omega
        rw [eF, List.getElem?_append_right (by rw [hlp]; omega), hlp, Nat.sub_self]; rfl
      have d6 : decide ((j : Int) < ((A.probes.length + 0 : Nat) : Int)) = false := decide_eq_false (by omega)
      have hm := List.mem_of_getElem? hf
      have hgx := hrow j _ hf
      have hd := hdec _ hm
      have dc := decode_sat (encodeT (beatF O))
      rw [hd] at dc
      have dg : ((((beatF O, 0) : Fr × Nat).2 : Int) != 0) = false := rfl
      conv => whnf
      iterate 14
        repeat' (first | exact True.intro | ((first | rw [hww] | refine ⟨j, rfl, (by rw [hW]; exact hjl), ?_⟩ | refine ⟨_, hgx, ?_⟩ | refine Yb fun _ => ?_ | refine Yc fun _ => ?_ | refine Ya (by kernel_rfl) ?_ | refine Ya (by decide) ?_ | refine Yd (by decide) fun _ => ?_ | refine Ye (by decide) fun _ => ?_ | refine ⟨_, _, dc.pu rfl rfl, ?_⟩ | refine ⟨_, _, r1.at3 0 3 5 rfl rfl rfl rfl rfl rfl, ?_⟩ | refine ⟨_, _, r6.at3 0 3 5 rfl rfl rfl rfl rfl rfl, ?_⟩ | refine ⟨_, _, r5.at3 0 3 5 rfl rfl rfl rfl rfl rfl, ?_⟩); conv => whnf) | (refine Ya (fun _ => ?_) (fun _ => ?_) <;> conv => whnf))
        all_goals try (refine Or.inl ?_; conv => whnf)
      all_goals try exact (bnl d3 ‹_›).elim
      all_goals try exact (bnl ‹_› dg).elim
      all_goals try exact (bnl ‹_› dii).elim
      all_goals try exact (bnl ‹_› dee).elim
      all_goals try exact (bnl ‹_› dz).elim
      all_goals try exact (bnl ‹_› d5).elim
      all_goals try exact (bnl ‹_› d6).elim
      all_goals try exact (bnl dss ‹_›).elim
      all_goals try exact (bnl ‹_› dnc).elim
      refine ⟨j + 1, hjl, show A.probes.length + 1 - (j + 1) < A.probes.length + 1 - j by omega, ?_⟩
      all_goals refine ⟨[(7, 7)], ?_⟩
      repeat (any_goals (first | exact True.intro | exact rfl | exact (by kernel_rfl) | refine Ya ?_ ?_))
      all_goals conv => whnf
      exact wk1 (by omega)
  have s1 := hrn hep
  have eF : frsA O = O.probes.map (replyF O) ++ [batchF O (mostB O (min O.kept.length 64)), beatF O] := by unfold frsA; rw [if_neg hep, if_neg hke]; rfl
  obtain ⟨m1, m2, m3⟩ := batch_most hke
  generalize mostB O (min O.kept.length 64) = m at *
  have hW : ((sentA O).map fun b => ([bsD b] : List D)).length = (A.probes.length + 2) := by rw [hsl, eF]; simp [hop]
  have r1 := agEpoch_sat ({ O with probes := [] })
  have r2 := agProbes_sat ({ O with probes := [] })
  have r3 := kept_sat ({ O with probes := [] }) (by show O.kept.length ≤ _; omega) hll
  have r5 := agClock_sat ({ O with probes := [] })
  have r6 := agSeq_sat ({ O with probes := [] })
  have r7 := agFirst_sat ({ O with probes := [] }) (show in64 (firstA O) from ⟨by omega, by omega⟩)
  have dl : ((((sentA O).map fun b => ([bsD b] : List D)).length : Int) != ((A.probes.length + 2 : Nat) : Int)) = false := by rw [hW]; simp
  have dz : (O.epoch == 0) = false := by rw [beqI, decide_eq_false hep]
  have dk : decide (((O.kept.map evR).length : Int) > 0) = true := decide_eq_true (by rw [hmk]; omega)
  conv => whnf
  iterate 12
    repeat' (first | exact True.intro | ((first | rw [w1] | rw [w2] | refine Yb fun _ => ?_ | refine Yc fun _ => ?_ | refine Ya (by kernel_rfl) ?_ | refine Ya (by decide) ?_ | refine Yd (by decide) fun _ => ?_ | refine Ye (by decide) fun _ => ?_ | refine ⟨_, _, p1.at3 0 1 2 rfl rfl rfl rfl rfl rfl, ?_⟩ | refine ⟨_, _, s1.at3 0 1 2 rfl rfl rfl rfl rfl rfl, ?_⟩ | refine ⟨_, _, CallOK.frzO (r3.at3 0 3 5 rfl rfl rfl rfl rfl rfl), ?_⟩ | refine ⟨_, _, r1.at3 0 3 5 rfl rfl rfl rfl rfl rfl, ?_⟩ | refine ⟨_, _, r2.at3 0 3 5 rfl rfl rfl rfl rfl rfl, ?_⟩); conv => whnf) | (refine Ya (fun _ => ?_) (fun _ => ?_) <;> conv => whnf))
    all_goals try (refine Or.inl ?_; conv => whnf)
  all_goals try exact (bnl ‹_› d1).elim
  all_goals try exact (bnl ‹_› dl).elim
  all_goals try exact (bnl ‹_› dz).elim
  all_goals try exact (bnl dk ‹_›).elim
  all_goals
    refine ⟨Nat, fun j => j ≤ A.probes.length + 2, fun j => ([(17, iA j), (16, iA (A.probes.length + 2 : Nat)), (15, .d (.sl 4 (O.kept.map evR))), (13, .own 4), (12, iA A.probes.length), (9, .ptr 0 0), (0, iA O.id)], [.cells (agC ({ O with probes := [] }) (.own 3) (.own 5)), .dead, .dead, .sl 4 (O.kept.map evR), .sl 1 ((sentA O).map fun b => [bsD b]), .sl 3 ((({ O with probes := [] } : Ag)).probes.map prR), .dead]), fun j => A.probes.length + 2 - j, ⟨0, Nat.zero_le _, ?_⟩, ?_⟩
    · all_goals refine ⟨[], ?_⟩
      repeat (any_goals (first | exact True.intro | exact rfl | exact (by kernel_rfl) | refine Ya ?_ ?_))
      all_goals conv => whnf
    intro j hj
    have hj : j ≤ A.probes.length + 2 := hj
    by_cases hjl : j < A.probes.length + 2
    case neg =>
      have d3 : decide ((j : Int) < (((sentA O).map fun b => ([bsD b] : List D)).length : Nat)) = false := decide_eq_false (by rw [hW]; omega)
      conv => whnf
      iterate 5
        repeat' (first | exact True.intro | ((first | refine Yb fun _ => ?_ | refine Yc fun _ => ?_ | refine Ya (by kernel_rfl) ?_ | refine Ya (by decide) ?_ | refine Yd (by decide) fun _ => ?_ | refine Ye (by decide) fun _ => ?_); conv => whnf) | (refine Ya (fun _ => ?_) (fun _ => ?_) <;> conv => whnf))
        all_goals try (refine Or.inl ?_; conv => whnf)
      all_goals try exact (bnl ‹_› d3).elim
      all_goals refine ⟨[], ?_⟩
      repeat (any_goals (first | exact True.intro | exact rfl | exact (by kernel_rfl) | refine Ya ?_ ?_))
      all_goals conv => whnf
    have d3 : decide ((j : Int) < (((sentA O).map fun b => ([bsD b] : List D)).length : Nat)) = true := decide_eq_true (by rw [hW]; omega)
    have hlp : (O.probes.map (replyF O)).length = A.probes.length := by rw [List.length_map, hop]
    have dcc : (O.clock == O.clock) = true := by simp
    have dss : (O.seq == O.seq) = true := by simp
    have dnc : (!(O.clock == O.clock)) = false := by simp
    have hww : IntKind.i64.wrap (((A.probes.length + 2 : Nat) : Int) - 1) = ((A.probes.length + 1 : Nat) : Int) := by rw [wi (by omega) (by omega)]; omega
    by_cases hjp : j < A.probes.length
    · have hpp : O.probes[j]? = some (O.probes[j]'(by rw [hop]; exact hjp)) := List.getElem?_eq_getElem (by rw [hop]; exact hjp)
      have hpg := (hoi.pr _ (List.mem_of_getElem? hpp)).2.2.2
      generalize O.probes[j]'_ = p at hpp hpg
      have hf : (frsA O)[j]? = some (replyF O p) := by rw [eF, List.getElem?_append_left (by rw [hlp]; exact hjp), List.getElem?_map, hpp]; rfl
      have hm := List.mem_of_getElem? hf
      have hgx := hrow j _ hf
      have hd := hdec _ hm
      have dc := decode_sat (encodeT (replyF O p))
      rw [hd] at dc
      have dg : ((((replyF O p, 0) : Fr × Nat).2 : Int) != 0) = false := rfl
      have d5 : decide ((j : Int) < (A.probes.length : Int)) = true := decide_eq_true (by omega)
      have d6 : (!decide (p.2.2 ≤ O.clock)) = false := by rw [decide_eq_true hpg]; rfl
      conv => whnf
      iterate 14
        repeat' (first | exact True.intro | ((first | rw [hww] | refine ⟨j, rfl, (by rw [hW]; exact hjl), ?_⟩ | refine ⟨_, hgx, ?_⟩ | refine Yb fun _ => ?_ | refine Yc fun _ => ?_ | refine Ya (by kernel_rfl) ?_ | refine Ya (by decide) ?_ | refine Yd (by decide) fun _ => ?_ | refine Ye (by decide) fun _ => ?_ | refine ⟨_, _, dc.pu rfl rfl, ?_⟩ | refine ⟨_, _, r1.at3 0 3 5 rfl rfl rfl rfl rfl rfl, ?_⟩ | refine ⟨_, _, r5.at3 0 3 5 rfl rfl rfl rfl rfl rfl, ?_⟩); conv => whnf) | (refine Ya (fun _ => ?_) (fun _ => ?_) <;> conv => whnf))
        all_goals try (refine Or.inl ?_; conv => whnf)
      all_goals try exact (bnl d3 ‹_›).elim
      all_goals try exact (bnl ‹_› dg).elim
      all_goals try exact (bnl ‹_› dii).elim
      all_goals try exact (bnl ‹_› dee).elim
      all_goals try exact (bnl ‹_› dz).elim
      all_goals try exact (bnl d5 ‹_›).elim
      all_goals try exact (bnl dcc ‹_›).elim
      all_goals try exact (bnl ‹_› d6).elim
      refine ⟨j + 1, hjl, show A.probes.length + 2 - (j + 1) < A.probes.length + 2 - j by omega, ?_⟩
      all_goals refine ⟨[(7, 7)], ?_⟩
      repeat (any_goals (first | exact True.intro | exact rfl | exact (by kernel_rfl) | refine Ya ?_ ?_))
      all_goals conv => whnf
      exact wk1 (by omega)
    have d5 : decide ((j : Int) < (A.probes.length : Int)) = false := decide_eq_false (by omega)
    by_cases hjq : j = A.probes.length
    · have hf : (frsA O)[j]? = some (batchF O m) := by rw [eF, List.getElem?_append_right (by rw [hlp]; omega), hlp, hjq, Nat.sub_self]; rfl
      have hbl : ((batchF O m).ev.map evR).length = m := by rw [List.length_map]; show (O.kept.take m).length = m; rw [List.length_take]; omega
      have hmin : (if ((O.kept.map evR).length : Int) < (((batchF O m).ev.map evR).length : Int) then ((O.kept.map evR).length : Int) else (((batchF O m).ev.map evR).length : Int)) = (m : Int) := by rw [hmk, hbl, if_neg (by omega)]
      have hbf := hfok _ (List.mem_of_getElem? hf)
      have sm := same_pre (batchF O m) (batchF O m) hbf hbf (bat_le O m)
      rw [sameB_iff.2 rfl] at sm
      have hm := List.mem_of_getElem? hf
      have hgx := hrow j _ hf
      have hd := hdec _ hm
      have dc := decode_sat (encodeT (batchF O m))
      rw [hd] at dc
      have dg : ((((batchF O m, 0) : Fr × Nat).2 : Int) != 0) = false := rfl
      have d6 : decide ((j : Int) < ((A.probes.length + 1 : Nat) : Int)) = true := decide_eq_true (by omega)
      have d7 : (firstA O == firstA O) = true := by simp
      have d8 : decide ((((batchF O m).ev.map evR).length : Int) ≥ 1) = true := decide_eq_true (by rw [hbl]; omega)
      have d9 : decide ((((batchF O m).ev.map evR).length : Int) ≤ ((O.kept.map evR).length : Int)) = true := decide_eq_true (by rw [hbl, hmk]; omega)
      conv => whnf
      iterate 14
        repeat' (first | exact True.intro | ((first | rw [hww] | rw [hmin] | refine ⟨j, rfl, (by rw [hW]; exact hjl), ?_⟩ | refine ⟨_, hgx, ?_⟩ | refine Yb fun _ => ?_ | refine Yc fun _ => ?_ | refine Ya (by kernel_rfl) ?_ | refine Ya (by decide) ?_ | refine Yd (by decide) fun _ => ?_ | refine Ye (by decide) fun _ => ?_ | refine ⟨_, _, upto_d (hi := m) 4 56 (by kernel_rfl) (by rw [hmk]; exact m2), ?_⟩ | refine ⟨_, _, sm.pu rfl rfl, ?_⟩ | refine ⟨_, _, dc.pu rfl rfl, ?_⟩ | refine ⟨_, _, r1.at3 0 3 5 rfl rfl rfl rfl rfl rfl, ?_⟩ | refine ⟨_, _, r7.at3 0 3 5 rfl rfl rfl rfl rfl rfl, ?_⟩); conv => whnf) | (refine Ya (fun _ => ?_) (fun _ => ?_) <;> conv => whnf))
        all_goals try (refine Or.inl ?_; conv => whnf)
      all_goals try exact (bnl d3 ‹_›).elim
      all_goals try exact (bnl ‹_› dg).elim
      all_goals try exact (bnl ‹_› dii).elim
      all_goals try exact (bnl ‹_› dee).elim
      all_goals try exact (bnl ‹_› dz).elim
      all_goals try exact (bnl ‹_› d5).elim
      all_goals try exact (bnl d6 ‹_›).elim
      all_goals try exact (bnl d7 ‹_›).elim
      all_goals try exact (bnl d8 ‹_›).elim
      all_goals try exact (bnl d9 ‹_›).elim
      refine ⟨j + 1, hjl, show A.probes.length + 2 - (j + 1) < A.probes.length + 2 - j by omega, ?_⟩
      all_goals refine ⟨[(7, 7)], ?_⟩
      repeat (any_goals (first | exact True.intro | exact rfl | exact (by kernel_rfl) | refine Ya ?_ ?_))
      all_goals conv => whnf
      exact wk1 (by omega)
    have hf : (frsA O)[j]? = some (beatF O) := by
      obtain rfl : j = A.probes.length + 1 := by omega
      rw [eF, List.getElem?_append_right (by rw [hlp]; omega), hlp, show A.probes.length + 1 - A.probes.length = 1 by omega]; rfl
    have d6 : decide ((j : Int) < ((A.probes.length + 1 : Nat) : Int)) = false := decide_eq_false (by omega)
    have hm := List.mem_of_getElem? hf
    have hgx := hrow j _ hf
    have hd := hdec _ hm
    have dc := decode_sat (encodeT (beatF O))
    rw [hd] at dc
    have dg : ((((beatF O, 0) : Fr × Nat).2 : Int) != 0) = false := rfl
    conv => whnf
    iterate 14
      repeat' (first | exact True.intro | ((first | rw [hww] | refine ⟨j, rfl, (by rw [hW]; exact hjl), ?_⟩ | refine ⟨_, hgx, ?_⟩ | refine Yb fun _ => ?_ | refine Yc fun _ => ?_ | refine Ya (by kernel_rfl) ?_ | refine Ya (by decide) ?_ | refine Yd (by decide) fun _ => ?_ | refine Ye (by decide) fun _ => ?_ | refine ⟨_, _, dc.pu rfl rfl, ?_⟩ | refine ⟨_, _, r1.at3 0 3 5 rfl rfl rfl rfl rfl rfl, ?_⟩ | refine ⟨_, _, r6.at3 0 3 5 rfl rfl rfl rfl rfl rfl, ?_⟩ | refine ⟨_, _, r5.at3 0 3 5 rfl rfl rfl rfl rfl rfl, ?_⟩); conv => whnf) | (refine Ya (fun _ => ?_) (fun _ => ?_) <;> conv => whnf))
      all_goals try (refine Or.inl ?_; conv => whnf)
    all_goals try exact (bnl d3 ‹_›).elim
    all_goals try exact (bnl ‹_› dg).elim
    all_goals try exact (bnl ‹_› dii).elim
    all_goals try exact (bnl ‹_› dee).elim
    all_goals try exact (bnl ‹_› dz).elim
    all_goals try exact (bnl ‹_› d5).elim
    all_goals try exact (bnl ‹_› d6).elim
    all_goals try exact (bnl dss ‹_›).elim
    all_goals try exact (bnl ‹_› dnc).elim
    refine ⟨j + 1, hjl, show A.probes.length + 2 - (j + 1) < A.probes.length + 2 - j by omega, ?_⟩
    all_goals refine ⟨[(7, 7)], ?_⟩
    repeat (any_goals (first | exact True.intro | exact rfl | exact (by kernel_rfl) | refine Ya ?_ ?_))
    all_goals conv => whnf
    exact wk1 (by omega)
end Go.Proofs.YtfbfpnfgabamfaaGreat
namespace Go.Proofs.YtfbfpnfgabamfaaGreat
set_option linter.unusedSimpArgs false
set_option linter.unusedVariables false
open Go.RowKit
theorem own : ownKnob Tryz.prog.godebug = none := by kernel_rfl
theorem laidOut : laidOutB Tryz.prog = true := by kernel_rfl
end Go.Proofs.YtfbfpnfgabamfaaGreat
