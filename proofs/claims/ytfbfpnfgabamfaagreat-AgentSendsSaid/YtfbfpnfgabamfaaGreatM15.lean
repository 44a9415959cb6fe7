/- Parts AgF, AgP, AgG, AgH, AgI, AgJ, AgK, AgL, AgM, AgQ, AgN, AgO1, AgO, AgR, AgT, At4 of the proof, put together. -/
import Derived.Test.YtfbfpnfgabamfaaGreatM14
namespace Go.Proofs.YtfbfpnfgabamfaaGreat
set_option linter.unusedSimpArgs false
open Go.RowKit
set_option maxRecDepth 100000
set_option linter.unusedVariables false
theorem right_next {f : Fr} (h : rightF f = true) : 0 ≤ f.n := by
  unfold rightF at h
  split at h
  · rename_i hk
    obtain ⟨q1, q2, q3, q4⟩ := right_parts h
    have e := sameB_iff.1 q4
    have e2 : f.n = bnum f (idxK f.k.toNat) 7 := congrArg Fr.n e
    rw [e2]
    unfold bnum
    split
    · rename_i hc
      exact (q2 _ (List.mem_map.2 ⟨7, List.contains_iff_mem.1 hc, rfl⟩)).1
    · exact Int.le_refl _
  · cases h
theorem decode_next {l : Bt} (h : (decodeF l).2 = 0) : 0 ≤ (decodeF l).1.n := by
  have e : decodeF l = ((decodeF l).1, 0) := by rw [← h]
  exact right_next (decodeF_zero e).2
def frameA (a : Ag) (f : Fr) : Ag × Nat := if f.k = 2 then grantA a f else if f.k = 3 then probeA a f else ackA a f
def takeA (a0 : Ag) (r : Int) (l : Bt) : Ag × Nat :=
  let a := (observeA a0 r).1
  if (observeA a0 r).2 ≠ 0 then (a, (observeA a0 r).2)
  else if (decodeF l).2 ≠ 0 then (a, (decodeF l).2)
  else if (decodeF l).1.k ≠ 2 ∧ (decodeF l).1.k ≠ 3 ∧ (decodeF l).1.k ≠ 6 then (a, 16)
  else if (decodeF l).1.a ≠ a.id then (a, 10)
  else frameA a (decodeF l).1
theorem observeA_first (a : Ag) (r : Int) : firstA (observeA a r).1 = firstA a := by
  unfold firstA
  rw [(observeA_seq a r).1, (observeA_seq a r).2]
set_option maxHeartbeats 8000000 in
theorem take_satA (a0 : Ag) (r : Int) (l : Bt) (h0 : 0 ≤ firstA a0) (hs : a0.seq ≤ 1099511627775) (hk : a0.kept.length ≤ 100000) : Sat Tryz.prog 27 [.ptr 0 0, iA r, .d (bsD l)] (agH a0) (iA (takeA a0 r l).2) (agH2 (takeA a0 r l).1) := by
  have o1 := observe_sat a0 r
  obtain ⟨q1, q2⟩ := observeA_seq a0 r
  have q3 := observeA_first a0 r
  have dc := decode_sat l
  have dn := decode_next (l := l)
  rw [← q1] at hs
  rw [← q2] at hk
  rw [← q3] at h0
  unfold takeA
  generalize observeA a0 r = A at *
  obtain ⟨a, e⟩ := A
  generalize decodeF l = D at *
  obtain ⟨f, e2⟩ := D
  simp only at o1 hs hk h0 dc dn ⊢
  by_cases he : e = 0
  case neg =>
    rw [if_pos he]
    have d1 := ne0 he
    refine sat_of_vc (T := tiOf Tryz.prog) (E := E0) Tryz.func27 rfl rfl hE0 hm0 rfl ?_
    conv => whnf
    iterate 4
      repeat' (first | exact True.intro | ((first | refine Yb fun _ => ?_ | refine Yc fun _ => ?_ | refine Ya (by kernel_rfl) ?_ | refine Ya (by decide) ?_ | refine Yd (by decide) fun _ => ?_ | refine Ye (by decide) fun _ => ?_ | refine ⟨_, _, o1.at3 0 1 2 rfl rfl rfl rfl rfl rfl, ?_⟩); conv => whnf) | (refine Ya (fun _ => ?_) (fun _ => ?_) <;> conv => whnf))
      all_goals try (refine Or.inl ?_; conv => whnf)
    all_goals try exact (bnl d1 ‹_›).elim
    all_goals refine ⟨[(1, 3), (2, 4)], ?_⟩
    repeat (any_goals (first | exact True.intro | exact rfl | exact (by kernel_rfl) | refine Ya ?_ ?_))
    all_goals conv => whnf
  subst he
  rw [if_neg (fun h => h rfl)]
  by_cases he2 : e2 = 0
  case neg =>
    rw [if_pos he2]
    have d1 := ne0 he2
    refine sat_of_vc (T := tiOf Tryz.prog) (E := E0) Tryz.func27 rfl rfl hE0 hm0 rfl ?_
    conv => whnf
    iterate 5
      repeat' (first | exact True.intro | ((first | refine Yb fun _ => ?_ | refine Yc fun _ => ?_ | refine Ya (by kernel_rfl) ?_ | refine Ya (by decide) ?_ | refine Yd (by decide) fun _ => ?_ | refine Ye (by decide) fun _ => ?_ | refine ⟨_, _, o1.at3 0 1 2 rfl rfl rfl rfl rfl rfl, ?_⟩ | refine ⟨_, _, dc.pu rfl rfl, ?_⟩); conv => whnf) | (refine Ya (fun _ => ?_) (fun _ => ?_) <;> conv => whnf))
      all_goals try (refine Or.inl ?_; conv => whnf)
    all_goals try exact (bnl d1 ‹_›).elim
    all_goals refine ⟨[(1, 4), (2, 5), (3, 4), (4, 5)], ?_⟩
    repeat (any_goals (first | exact True.intro | exact rfl | exact (by kernel_rfl) | refine Ya ?_ ?_))
    all_goals conv => whnf
  subst he2
  rw [if_neg (fun h => h rfl)]
  have dn := dn rfl
  have g1 := grant_sat a f
  have p1 := probe_sat a f
  have k1 := ack_sat a f h0 hs hk dn
  obtain ⟨fk, fa, fe, fb, fc, fg, fs, fn, ft, fw, ev, sr, d⟩ := f
  unfold frameA
  simp only at dn ⊢
  by_cases h1 : fk ≠ 2 ∧ fk ≠ 3 ∧ fk ≠ 6
  · rw [if_pos h1]
    have d1 : (fk != 2) = true := by rw [bneI, decide_eq_true h1.1]
    have d2 : (fk != 3) = true := by rw [bneI, decide_eq_true h1.2.1]
    have d3 : (fk != 6) = true := by rw [bneI, decide_eq_true h1.2.2]
    refine sat_of_vc (T := tiOf Tryz.prog) (E := E0) Tryz.func27 rfl rfl hE0 hm0 rfl ?_
    conv => whnf
    iterate 6
      repeat' (first | exact True.intro | ((first | refine (fun (_ : True) => (bnl d1 ‹_›).elim) ?_ | refine (fun (_ : True) => (bnl d2 ‹_›).elim) ?_ | refine (fun (_ : True) => (bnl d3 ‹_›).elim) ?_ | refine Yb fun _ => ?_ | refine Yc fun _ => ?_ | refine Ya (by kernel_rfl) ?_ | refine Ya (by decide) ?_ | refine Yd (by decide) fun _ => ?_ | refine Ye (by decide) fun _ => ?_ | refine ⟨_, _, o1.at3 0 1 2 rfl rfl rfl rfl rfl rfl, ?_⟩ | refine ⟨_, _, dc.pu rfl rfl, ?_⟩); conv => whnf) | (refine Ya (fun _ => ?_) (fun _ => ?_) <;> conv => whnf))
      all_goals try (refine Or.inl ?_; conv => whnf)
    all_goals refine ⟨[(1, 4), (2, 5), (3, 4), (4, 5)], ?_⟩
    repeat (any_goals (first | exact True.intro | exact rfl | exact (by kernel_rfl) | refine Ya ?_ ?_))
    all_goals conv => whnf
  rw [if_neg h1]
  have hneg : ¬ ((fk != 2) = true ∧ (fk != 3) = true ∧ (fk != 6) = true) := by
    rintro ⟨p1, p2, p3⟩
    rw [bne_iff_ne] at p1 p2 p3
    exact h1 ⟨p1, p2, p3⟩
  by_cases h2 : fa = a.id
  case neg =>
    rw [if_pos h2]
    have d1 : (fa != a.id) = true := by rw [bneI, decide_eq_true h2]
    refine sat_of_vc (T := tiOf Tryz.prog) (E := E0) Tryz.func27 rfl rfl hE0 hm0 rfl ?_
    conv => whnf
    iterate 6
      repeat' (first | exact True.intro | ((first | refine (fun (_ : True) => (hneg ⟨‹_›, ‹_›, ‹_›⟩).elim) ?_ | refine (fun (_ : True) => (bnl d1 ‹_›).elim) ?_ | refine Yb fun _ => ?_ | refine Yc fun _ => ?_ | refine Ya (by kernel_rfl) ?_ | refine Ya (by decide) ?_ | refine Yd (by decide) fun _ => ?_ | refine Ye (by decide) fun _ => ?_ | refine ⟨_, _, o1.at3 0 1 2 rfl rfl rfl rfl rfl rfl, ?_⟩ | refine ⟨_, _, dc.pu rfl rfl, ?_⟩); conv => whnf) | (refine Ya (fun _ => ?_) (fun _ => ?_) <;> conv => whnf))
      all_goals try (refine Or.inl ?_; conv => whnf)
    all_goals refine ⟨[(1, 4), (2, 5), (3, 4), (4, 5)], ?_⟩
    repeat (any_goals (first | exact True.intro | exact rfl | exact (by kernel_rfl) | refine Ya ?_ ?_))
    all_goals conv => whnf
  rw [if_neg (fun h => h h2)]
  have d1 : (fa != a.id) = false := by rw [bneI, decide_eq_false fun h => h h2]
  by_cases h3 : fk = 2
  · rw [if_pos h3]
    subst h3
    refine sat_of_vc (T := tiOf Tryz.prog) (E := E0) Tryz.func27 rfl rfl hE0 hm0 rfl ?_
    conv => whnf
    iterate 6
      repeat' (first | exact True.intro | ((first | refine (fun (_ : True) => (hneg ⟨‹_›, ‹_›, ‹_›⟩).elim) ?_ | refine (fun (_ : True) => (bnl ‹_› d1).elim) ?_ | refine Yb fun _ => ?_ | refine Yc fun _ => ?_ | refine Ya (by kernel_rfl) ?_ | refine Ya (by decide) ?_ | refine Yd (by decide) fun _ => ?_ | refine Ye (by decide) fun _ => ?_ | refine ⟨_, _, o1.at3 0 1 2 rfl rfl rfl rfl rfl rfl, ?_⟩ | refine ⟨_, _, dc.pu rfl rfl, ?_⟩ | refine ⟨_, _, g1.at3 0 1 2 rfl rfl rfl rfl rfl rfl, ?_⟩); conv => whnf) | (refine Ya (fun _ => ?_) (fun _ => ?_) <;> conv => whnf))
      all_goals try (refine Or.inl ?_; conv => whnf)
    all_goals refine ⟨[(1, 4), (2, 5), (3, 4), (4, 5)], ?_⟩
    repeat (any_goals (first | exact True.intro | exact rfl | exact (by kernel_rfl) | refine Ya ?_ ?_))
    all_goals conv => whnf
  rw [if_neg h3]
  by_cases h4 : fk = 3
  · rw [if_pos h4]
    subst h4
    refine sat_of_vc (T := tiOf Tryz.prog) (E := E0) Tryz.func27 rfl rfl hE0 hm0 rfl ?_
    conv => whnf
    iterate 6
      repeat' (first | exact True.intro | ((first | refine (fun (_ : True) => (hneg ⟨‹_›, ‹_›, ‹_›⟩).elim) ?_ | refine (fun (_ : True) => (bnl ‹_› d1).elim) ?_ | refine Yb fun _ => ?_ | refine Yc fun _ => ?_ | refine Ya (by kernel_rfl) ?_ | refine Ya (by decide) ?_ | refine Yd (by decide) fun _ => ?_ | refine Ye (by decide) fun _ => ?_ | refine ⟨_, _, o1.at3 0 1 2 rfl rfl rfl rfl rfl rfl, ?_⟩ | refine ⟨_, _, dc.pu rfl rfl, ?_⟩ | refine ⟨_, _, p1.at3 0 1 2 rfl rfl rfl rfl rfl rfl, ?_⟩); conv => whnf) | (refine Ya (fun _ => ?_) (fun _ => ?_) <;> conv => whnf))
      all_goals try (refine Or.inl ?_; conv => whnf)
    all_goals refine ⟨[(3, 4), (4, 5)], ?_⟩
    repeat (any_goals (first | exact True.intro | exact rfl | exact (by kernel_rfl) | refine Ya ?_ ?_))
    all_goals conv => whnf
  rw [if_neg h4]
  obtain rfl : fk = 6 := by
    by_cases h6 : fk = 6
    · exact h6
    · exact absurd ⟨h3, h4, h6⟩ h1
  refine sat_of_vc (T := tiOf Tryz.prog) (E := E0) Tryz.func27 rfl rfl hE0 hm0 rfl ?_
  conv => whnf
  iterate 6
    repeat' (first | exact True.intro | ((first | refine (fun (_ : True) => (hneg ⟨‹_›, ‹_›, ‹_›⟩).elim) ?_ | refine (fun (_ : True) => (bnl ‹_› d1).elim) ?_ | refine Yb fun _ => ?_ | refine Yc fun _ => ?_ | refine Ya (by kernel_rfl) ?_ | refine Ya (by decide) ?_ | refine Yd (by decide) fun _ => ?_ | refine Ye (by decide) fun _ => ?_ | refine ⟨_, _, o1.at3 0 1 2 rfl rfl rfl rfl rfl rfl, ?_⟩ | refine ⟨_, _, dc.pu rfl rfl, ?_⟩ | refine ⟨_, _, k1.at3 0 1 2 rfl rfl rfl rfl rfl rfl, ?_⟩); conv => whnf) | (refine Ya (fun _ => ?_) (fun _ => ?_) <;> conv => whnf))
    all_goals try (refine Or.inl ?_; conv => whnf)
  all_goals refine ⟨[(3, 4), (4, 5)], ?_⟩
  repeat (any_goals (first | exact True.intro | exact rfl | exact (by kernel_rfl) | refine Ya ?_ ?_))
  all_goals conv => whnf
structure AgInv (a : Ag) : Prop where
  id : 0 ≤ a.id ∧ a.id < 64
  most : 1 ≤ a.most ∧ a.most ≤ 1024
  boot : 0 ≤ a.boot ∧ a.boot ≤ 1099511627776
  epoch : 0 ≤ a.epoch ∧ a.epoch ≤ 1099511627776
  clock : 0 ≤ a.clock ∧ a.clock ≤ 4611686018427387903
  seq : a.seq ≤ 1099511627775
  first : 0 ≤ firstA a
  len : (a.kept.length : Int) ≤ a.most
  ev : ∀ x ∈ a.kept, evOk x = true ∧ in64 x.2.1 ∧ x.1 ≤ a.clock
  rise : a.kept.Pairwise fun x y => x.1 ≤ y.1
  pl : a.probes.length ≤ 8
  pr : ∀ p ∈ a.probes, (0 ≤ p.1 ∧ p.1 ≤ 4611686018427387903) ∧ (0 ≤ p.2.1 ∧ p.2.1 ≤ 4611686018427387903) ∧ 0 ≤ p.2.2 ∧ p.2.2 ≤ a.clock
theorem newA_inv {id most b : Int} (h1 : 0 ≤ id ∧ id < 64) (h2 : 1 ≤ most ∧ most ≤ 1024) (h3 : 0 ≤ b ∧ b ≤ 1099511627776) : AgInv (newA id most b) :=
  ⟨h1, h2, h3, ⟨Int.le_refl _, (by decide : (0 : Int) ≤ 1099511627776)⟩, ⟨Int.le_refl _, (by decide : (0 : Int) ≤ 4611686018427387903)⟩, (by decide : (0 : Int) ≤ 1099511627775), (by show (0 : Int) ≤ 0 - 0; decide), (by show (0 : Int) ≤ most; omega), fun x hx => (by cases hx), .nil, Nat.zero_le _, fun p hp => (by cases hp)⟩
theorem start_inv {a : Ag} (h : AgInv a) (b : Int) : AgInv (startA a b).1 := by
  unfold startA
  split
  · exact h
  · split
    · exact h
    · exact newA_inv h.id h.most ⟨by omega, by omega⟩
theorem observe_inv {a : Ag} (h : AgInv a) (r : Int) : AgInv (observeA a r).1 := by
  unfold observeA
  split
  · exact h
  · split
    · exact h
    · have hc := h.clock
      have hm : a.clock ≤ max a.clock r := Int.le_max_left _ _
      have hm2 : max a.clock r ≤ 4611686018427387903 := by rw [Int.max_def]; split <;> omega
      exact ⟨h.id, h.most, h.boot, h.epoch, ⟨Int.le_trans hc.1 hm, hm2⟩, h.seq, h.first, h.len, fun x hx => ⟨(h.ev x hx).1, (h.ev x hx).2.1, Int.le_trans (h.ev x hx).2.2 hm⟩, h.rise, h.pl, fun p hp => ⟨(h.pr p hp).1, (h.pr p hp).2.1, (h.pr p hp).2.2.1, Int.le_trans (h.pr p hp).2.2.2 hm⟩⟩
theorem measure_inv {a : Ag} (h : AgInv a) (r v : Int) (s : Ser) (hv : in64 v) : AgInv (measureA a r v s).1 := by
  have ho := observe_inv h r
  unfold measureA
  simp only
  generalize observeA a r = A at *
  obtain ⟨b, e⟩ := A
  simp only at ho ⊢
  split
  · exact ho
  split
  · exact ho
  split
  · exact ho
  rename_i hs
  split
  · exact ho
  rename_i hq
  split
  · exact ⟨ho.id, ho.most, ho.boot, ho.epoch, ho.clock, ho.seq, ho.first, ho.len, ho.ev, ho.rise, ho.pl, ho.pr⟩
  · rename_i hlen
    have hc := ho.clock
    have hf : 0 ≤ b.seq - (b.kept.length : Int) := ho.first
    have hsr : rightB s = true := by cases hh : rightB s with | true => rfl | false => exact absurd hh hs
    refine ⟨ho.id, ho.most, ho.boot, ho.epoch, ho.clock, (by show b.seq + 1 ≤ _; omega), ?_, ?_, ?_, ?_, ho.pl, ho.pr⟩
    · show 0 ≤ b.seq + 1 - ((b.kept ++ [(b.clock, v, s)]).length : Int)
      rw [List.length_append]; simp; omega
    · show ((b.kept ++ [(b.clock, v, s)]).length : Int) ≤ b.most
      rw [List.length_append]; simp; omega
    · intro x hx
      rcases List.mem_append.1 hx with hx | hx
      · exact ho.ev x hx
      · rw [List.mem_singleton.1 hx]
        refine ⟨?_, hv, Int.le_refl _⟩
        unfold evOk
        rw [Bool.and_eq_true]
        exact ⟨rngB_iff.2 hc, hsr⟩
    · refine List.pairwise_append.2 ⟨ho.rise, List.pairwise_singleton _ _, fun x hx y hy => ?_⟩
      rw [List.mem_singleton.1 hy]
      exact (ho.ev x hx).2.2
theorem right_head {f : Fr} (h : rightF f = true) : 0 ≤ f.e ∧ f.e ≤ 1099511627776 := by
  unfold rightF at h
  split at h
  · obtain ⟨q1, _⟩ := right_parts h
    exact (headOk_iff.1 q1).2
  · cases h
theorem right_probe {f : Fr} (h : rightF f = true) (hk : f.k = 3) : (0 ≤ f.b ∧ f.b ≤ 4611686018427387903) ∧ (0 ≤ f.c ∧ f.c ≤ 4611686018427387903) := by
  have h := rightF_k (k := 3) hk (by decide) (by decide) h
  obtain ⟨_, q2, _⟩ := right_parts h
  exact ⟨q2 f.b (by simp [valsK, idxK, getN]), q2 f.c (by simp [valsK, idxK, getN])⟩
theorem take_inv {a : Ag} (h : AgInv a) (r : Int) (l : Bt) : AgInv (takeA a r l).1 := by
  have ho := observe_inv h r
  unfold takeA
  simp only
  generalize observeA a r = A at *
  obtain ⟨b, e⟩ := A
  simp only at ho ⊢
  split
  · exact ho
  split
  · exact ho
  rename_i hd
  have hd : (decodeF l).2 = 0 := by
    rcases Nat.eq_zero_or_pos (decodeF l).2 with q | q
    · exact q
    · exact absurd (by omega) hd
  have hr := (decodeF_zero (f := (decodeF l).1) (l := l) (by rw [← hd])).2
  generalize (decodeF l).1 = f at *
  split
  · exact ho
  split
  · exact ho
  unfold frameA
  split
  · unfold grantA
    split
    · exact ho
    split
    · exact ho
    split
    · exact ho
    · exact ⟨ho.id, ho.most, ho.boot, right_head hr, ho.clock, ho.seq, ho.first, ho.len, ho.ev, ho.rise, ho.pl, ho.pr⟩
  split
  · rename_i hk3
    unfold probeA
    split
    · exact ho
    split
    · exact ho
    · rename_i h8
      obtain ⟨p1, p2⟩ := right_probe hr hk3
      refine ⟨ho.id, ho.most, ho.boot, ho.epoch, ho.clock, ho.seq, ho.first, ho.len, ho.ev, ho.rise, ?_, fun p hp => ?_⟩
      · show (b.probes ++ [(f.b, f.c, b.clock)]).length ≤ 8
        rw [List.length_append]; simp; omega
      · rcases List.mem_append.1 hp with hp | hp
        · exact ho.pr p hp
        · rw [List.mem_singleton.1 hp]
          exact ⟨p1, p2, ho.clock.1, Int.le_refl _⟩
  · unfold ackA
    split
    · exact ho
    split
    · exact ho
    · have hf : 0 ≤ b.seq - (b.kept.length : Int) := ho.first
      have hl := ho.len
      refine ⟨ho.id, ho.most, ho.boot, ho.epoch, ho.clock, ho.seq, ?_, ?_, fun x hx => ho.ev x (List.mem_of_mem_drop hx), ho.rise.drop, ho.pl, ho.pr⟩
      · show 0 ≤ b.seq - ((b.kept.drop (f.n - firstA b).toNat).length : Int)
        rw [List.length_drop]; omega
      · show ((b.kept.drop (f.n - firstA b).toNat).length : Int) ≤ b.most
        rw [List.length_drop]; omega
abbrev z4 : List D := [iD 0, iD 0, tD [], nilV]
def rowsK (l : List Evt) (i : Nat) : List (List D) := (l.take i).map evR ++ List.replicate (l.length - i) z4
theorem rowsK_len (l : List Evt) (i : Nat) (h : i ≤ l.length) : (rowsK l i).length = l.length := by
  unfold rowsK
  rw [List.length_append, List.length_map, List.length_take, List.length_replicate]; omega
theorem rowsK_at (l : List Evt) (i : Nat) (h : i < l.length) : (rowsK l i)[i]? = some z4 := by
  unfold rowsK
  have hl : ((l.take i).map evR).length = i := by rw [List.length_map, List.length_take]; omega
  rw [List.getElem?_append_right (by omega), hl, Nat.sub_self, List.getElem?_replicate, if_pos (by omega)]
theorem rowsK_set {l : List Evt} {i : Nat} {x : Evt} (hx : l[i]? = some x) : (rowsK l i).set i (evR x) = rowsK l (i + 1) := by
  have h : i < l.length := (List.getElem?_eq_some_iff.1 hx).1
  unfold rowsK
  have hl : ((l.take i).map evR).length = i := by rw [List.length_map, List.length_take]; omega
  rw [List.set_append_right _ _ (by omega), hl, Nat.sub_self, show l.length - i = (l.length - (i + 1)) + 1 by omega, List.replicate_succ, List.set_cons_zero, List.take_add_one, hx, List.map_append, List.append_assoc]
  rfl
set_option maxHeartbeats 4000000 in
theorem kept_sat (a : Ag) (hk : a.kept.length ≤ 100000) (hl : ∀ x ∈ a.kept, x.2.2.2.length ≤ 1000) : Sat Tryz.prog 18 [.ptr 0 0] (agH a) (.own 3) (agH a ++ [.sl 4 (a.kept.map evR)]) := by
  obtain ⟨id, most, boot, epoch, clock, seq, kept, dropped, probes⟩ := a
  simp only at hk hl
  have hm : (kept.map evR).length = kept.length := List.length_map _
  have hz : List.replicate (kept.map evR).length (zrow Tryz.prog 44) = rowsK kept 0 := by
    rw [zrow_ev, hm]
    unfold rowsK
    simp
  refine sat_of_vc (T := tiOf Tryz.prog) (E := E0) Tryz.func18 rfl rfl hE0 hm0 rfl ?_
  conv => whnf
  iterate 4
    repeat' (first | exact True.intro | ((first | refine Yb fun _ => ?_ | refine Yc fun _ => ?_ | refine Ya (by kernel_rfl) ?_ | refine Ya (by decide) ?_ | refine Yd (by decide) fun _ => ?_ | refine Ye (by decide) fun _ => ?_ | refine ⟨_, _, mkf (c := (kept.map evR).length) 4 56 (by kernel_rfl) (by omega) (by unfold maxLen; omega), ?_⟩); conv => whnf) | (refine Ya (fun _ => ?_) (fun _ => ?_) <;> conv => whnf))
    all_goals try (refine Or.inl ?_; conv => whnf)
  refine ⟨Nat, fun i => i ≤ kept.length, fun i => ([(19, iA i), (18, iA (kept.map evR).length), (17, .own 1), (3, .own 3), (0, .ptr 0 0)], agH ⟨id, most, boot, epoch, clock, seq, kept, dropped, probes⟩ ++ [.sl 4 (rowsK kept i)]), fun i => kept.length - i, ⟨0, Nat.zero_le _, ?_⟩, ?_⟩
  · all_goals refine ⟨[], ?_⟩
    repeat (any_goals (first | exact True.intro | exact rfl | exact (by kernel_rfl) | refine Ya ?_ ?_))
    all_goals conv => whnf
    all_goals exact congrArg (AObj.sl 4) hz
  intro i hi
  have hi : i ≤ kept.length := hi
  conv => whnf
  by_cases hlt : i < kept.length
  · have hx : kept[i]? = some kept[i] := List.getElem?_eq_getElem hlt
    generalize kept[i] = x at hx
    have hgx := map_get (f := evR) hx
    have c1 := copied_sat x (hl x (List.mem_of_getElem? hx))
    have d1 : decide ((i : Int) < ((kept.map evR).length : Nat)) = true := decide_eq_true (by rw [hm]; omega)
    iterate 4
      repeat' (first | exact True.intro | ((first | refine ⟨i, rfl, (by rw [hm]; exact hlt), ?_⟩ | refine ⟨i, rfl, (by rw [rowsK_len _ _ hi]; exact hlt), ?_⟩ | refine ⟨_, hgx, ?_⟩ | refine Ya (Nat.le_refl 4) ?_ | refine ⟨z4, evR x, rowsK_at kept i hlt, rfl, ?_⟩ | refine Yb fun _ => ?_ | refine Yc fun _ => ?_ | refine Ya (by kernel_rfl) ?_ | refine Ya (by decide) ?_ | refine Yd (by decide) fun _ => ?_ | refine Ye (by decide) fun _ => ?_ | refine ⟨_, _, c1.pu rfl rfl, ?_⟩); conv => whnf) | (refine Ya (fun _ => ?_) (fun _ => ?_) <;> conv => whnf))
      all_goals try (refine Or.inl ?_; conv => whnf)
    all_goals try exact (bnl d1 ‹_›).elim
    refine ⟨i + 1, hlt, show kept.length - (i + 1) < kept.length - i by omega, ?_⟩
    all_goals refine ⟨[], ?_⟩
    repeat (any_goals (first | exact True.intro | exact rfl | exact (by kernel_rfl) | refine Ya ?_ ?_))
    all_goals conv => whnf
    · exact wk1 (by omega)
    · exact congrArg (AObj.sl 4) (rowsK_set hx)
  · have d1 : decide ((i : Int) < ((kept.map evR).length : Nat)) = false := decide_eq_false (by rw [hm]; omega)
    obtain rfl : i = kept.length := by omega
    iterate 4
      repeat' (first | exact True.intro | ((first | refine Yb fun _ => ?_ | refine Yc fun _ => ?_ | refine Ya (by kernel_rfl) ?_ | refine Ya (by decide) ?_ | refine Yd (by decide) fun _ => ?_ | refine Ye (by decide) fun _ => ?_); conv => whnf) | (refine Ya (fun _ => ?_) (fun _ => ?_) <;> conv => whnf))
      all_goals try (refine Or.inl ?_; conv => whnf)
    all_goals try exact (bnl ‹_› d1).elim
    all_goals refine ⟨[], ?_⟩
    repeat (any_goals (first | exact True.intro | exact rfl | exact (by kernel_rfl) | refine Ya ?_ ?_))
    all_goals conv => whnf
    exact congrArg (AObj.sl 4) (by unfold rowsK; simp)
section
variable {P : Program} {L : List AObj} {n : Nat} {g : FuncId}
abbrev LendOk (L : List AObj) (args args1 : List AV) (ids : List Nat) : Prop :=
  ∀ (F F1 : Nat → Prop) (ρ : Nat → Option Value) (H : Hp) (w : World) (vals : List Value), Env F ρ H w → (∀ b, F b → F1 b) → (∀ i ∈ ids, H i = L[i]?) → (∀ i ∈ ids, ∀ h, ρ i = some h → ∀ b, blkOf h = some b → F1 b) → RAs w F ρ args vals → RAs w F1 (fun _ => none) args1 vals
theorem Sat.lendG {args args1 : List AV} {r : AV} {ids : List Nat} (h : Sat P g args1 [] r []) (hl : LendOk L args args1 ids) (hr : flatA r = true) (hlive : ∀ i ∈ ids, ∃ o, L[i]? = some o ∧ o.live = true) : CallOK P g args L n ⟨ids, [], []⟩ r := by
  intro H F ρ w vals En hrs _ hv
  have hH : ∀ i ∈ ids, ∀ hh, ρ i = some hh → ∀ b, blkOf hh = some b → b < w.heap.size := by
    intro i hi hh hρ b hb
    obtain ⟨o, ho, hlv⟩ := hlive i hi
    obtain ⟨h0, e1, _, e3⟩ := En.rep i o (by rw [hrs i hi]; exact ho) hlv
    rw [hρ] at e1; injection e1 with e1; subst e1
    exact (e3 b hb).1
  let F1 : Nat → Prop := fun b => F b ∨ ∃ i ∈ ids, ∃ hh, ρ i = some hh ∧ blkOf hh = some b
  have E1 : Env F1 (fun _ => none) (hp []) w := ⟨fun b hb => hb.elim (En.fb b) fun ⟨i, hi, hh, h1, h2⟩ => hH i hi hh h1 b h2, fun _ _ => rfl, fun i o h => by simp [hp] at h, fun i j o o' _ _ _ h => by simp [hp] at h⟩
  refine (h F1 (fun _ => none) w vals E1 (hl F F1 ρ H w vals En (fun _ h => .inl h) hrs (fun i hi hh h1 b h2 => .inr ⟨i, hi, hh, h1, h2⟩) hv)).mono ?_
  rintro en w' ⟨v, rfl, F2, ρ2, S, _, E2, R⟩
  have hold : ∀ b, b < w.heap.size → w'.heap[b]? = w.heap[b]? := fun b hb => S.unch b hb fun ⟨i, o, _, h, _⟩ => by simp [hp] at h
  refine ⟨v, rfl, fun b => F2 b ∧ (F b ∨ w.heap.size ≤ b), ρ, ⟨S.os, S.tape, S.output, S.size, fun b hb _ => hold b hb, fun b hb => ⟨S.fsub b (.inl hb), .inl hb⟩, fun b hb => hb.2.elim .inl fun q => .inr (.inl q), fun b hb => .inr hb⟩, Keep.refl _, ?_, R.flat r hr⟩
  refine ⟨fun b hb => E2.fb b hb.1, En.abs, fun i o hi hlv => ?_, En.inj⟩
  obtain ⟨hh, e1, e2, e3⟩ := En.rep i o hi hlv
  exact ⟨hh, e1, e2.mono S.size (fun b _ hlt => hold b hlt) (fun b hb => hold b (En.fb b hb)) (fun b hb => ⟨S.fsub b (.inl hb), .inl hb⟩) (Keep.refl _), fun b hb => ⟨Nat.lt_of_lt_of_le (e3 b hb).1 S.size, fun q => q.2.elim (e3 b hb).2 fun q => by have := (e3 b hb).1; omega⟩⟩
theorem own_rd {F F1 : Nat → Prop} {ρ : Nat → Option Value} {H : Hp} {w : World} {i s : Nat} {rows : List (List D)} (En : Env F ρ H w) (hi : H i = some (.sl s rows)) (hF : ∀ b, F b → F1 b) (hb : ∀ h, ρ i = some h → ∀ b, blkOf h = some b → F1 b) {v : Value} (hv : RA w F ρ (.own i) v) : RD w F1 (.sl s rows) v := by
  cases hv with | own R =>
  rename_i A m c
  obtain ⟨hh, e1, ⟨vs, how, hra, hs1⟩, e3⟩ := En.rep i _ hi rfl
  rw [R] at e1; injection e1 with e1; subst e1
  obtain ⟨A', c', he, g1, g2, hrd⟩ := how.form
  injection he with q1 q2 q3
  subst q1 q2 q3
  exact .sl rfl hs1 g1 g2 (hra.mono (fun _ _ => rfl) hF) fun hp' => by
    obtain ⟨b, off, rfl, hb', hc⟩ := hrd.2 hp'
    exact ⟨b, off, rfl, hb _ R b rfl, hc⟩
theorem flat_ds {F F1 : Nat → Prop} {ρ : Nat → Option Value} {w : World} {i : Nat} {x : D} (hF : ∀ b, F b → F1 b) (h : ∀ v, RA w F ρ (.own i) v → RD w F1 x v) : ∀ {ys : List AV} {ds : List D} {vs : List Value}, ys.map (sbs i x) = ds.map .d → RAs w F ρ ys vs → (∀ c ∈ vs, c.oneCell' = true) → RDs w F1 ds vs
  | [], [], _, _, h0, _ => by cases h0; exact .nil
  | [], _ :: _, _, e, _, _ => by simp at e
  | _ :: _, [], _, e, _, _ => by simp at e
  | y :: ys, d :: ds, _, e, h0, h1 => by
    rw [List.map_cons, List.map_cons] at e
    injection e with e1 e2
    cases h0 with | cons h2 h3 =>
    refine .cons ?_ (h1 _ (List.mem_cons_self ..)) (flat_ds hF h e2 h3 fun c hc => h1 c (List.mem_cons_of_mem _ hc))
    unfold sbs at e1
    split at e1
    · rename_i j
      cases hb : Nat.beq j i with
      | true =>
        have := Nat.eq_of_beq_eq_true hb
        subst this
        rw [hb] at e1
        injection e1 with e1
        subst e1
        exact h _ h2
      | false => rw [hb] at e1; cases e1
    · subst e1
      cases h2 with | d h2 => exact h2.mono (fun _ _ => rfl) hF
theorem lendOk_agg {i s : Nat} {rows : List (List D)} {xs : List AV} {ds : List D} (hi : L[i]? = some (.sl s rows)) (hx : xs.map (sbs i (.sl s rows)) = ds.map .d) : LendOk L [.agg xs] [.d (.agg ds)] [i] := by
  intro F F1 ρ H w vals En hF hrs hb hv
  have hHi : H i = some (.sl s rows) := (hrs i (by simp)).trans hi
  obtain ⟨v, rfl, hv'⟩ := hv.one_out
  cases hv' with | agg h1 h2 =>
  exact .cons (.d (.agg (flat_ds hF (fun v hv => own_rd En hHi hF (hb i (by simp)) hv) hx h1 h2))) .nil
theorem Sat.lendAg {i s : Nat} {rows : List (List D)} {xs : List AV} {ds : List D} {r : AV} (h : Sat P g [.d (.agg ds)] [] r []) (hi : L[i]? = some (.sl s rows)) (hx : xs.map (sbs i (.sl s rows)) = ds.map .d) (hr : flatA r = true) : CallOK P g [.agg xs] L n ⟨[i], [], []⟩ r :=
  h.lendG (lendOk_agg hi hx) hr fun j hj => by rw [List.mem_singleton.1 hj]; exact ⟨_, hi, rfl⟩
end
set_option maxHeartbeats 8000000 in
theorem measureO_sat (a0 : Ag) (r v : Int) (s : Ser) (hs : 0 ≤ a0.seq) (hk : a0.kept.length ≤ 100000) : Sat Tryz.prog 32 [.ptr 0 0, iA r, iA v, .agg [.d (tD s.1), .own 3]] (agH a0 ++ [.sl 2 (s.2.map labR)]) (.tup [iA (measureA a0 r v s).2.1, iA (measureA a0 r v s).2.2]) [.cells (agC (measureA a0 r v s).1 (.own 4) (.own 5)), .dead, .dead, .sl 2 (s.2.map labR), .sl 4 ((measureA a0 r v s).1.kept.map evR), .sl 3 ((measureA a0 r v s).1.probes.map prR)] := by
  have o1 := observe_sat a0 r
  obtain ⟨q1, q2⟩ := observeA_seq a0 r
  have r1 := sRight_sat s
  have hrl : rightB s = true → s.2.length ≤ 8 := fun h => (right_out h).2.1
  rw [← q1] at hs
  rw [← q2] at hk
  unfold measureA
  generalize observeA a0 r = A at *
  obtain ⟨a, e⟩ := A
  simp only at o1 hs hk ⊢
  by_cases he : e = 0
  case neg =>
    rw [if_pos he]
    have d1 := ne0 he
    refine sat_of_vc (T := tiOf Tryz.prog) (E := E0) Tryz.func32 rfl rfl hE0 hm0 rfl ?_
    conv => whnf
    iterate 4
      repeat' (first | exact True.intro | ((first | refine Yb fun _ => ?_ | refine Yc fun _ => ?_ | refine Ya (by kernel_rfl) ?_ | refine Ya (by decide) ?_ | refine Yd (by decide) fun _ => ?_ | refine Ye (by decide) fun _ => ?_ | refine ⟨_, _, o1.at3 0 1 2 rfl rfl rfl rfl rfl rfl, ?_⟩); conv => whnf) | (refine Ya (fun _ => ?_) (fun _ => ?_) <;> conv => whnf))
      all_goals try (refine Or.inl ?_; conv => whnf)
    all_goals try exact (bnl d1 ‹_›).elim
    all_goals refine ⟨[(1, 5), (2, 6), (4, 5), (5, 6)], ?_⟩
    repeat (any_goals (first | exact True.intro | exact rfl | exact (by kernel_rfl) | refine Ya ?_ ?_))
    all_goals conv => whnf
  subst he
  rw [if_neg (fun h => h rfl)]
  by_cases h1 : a.epoch = 0
  · rw [if_pos h1]
    have d1 : (a.epoch == 0) = true := by rw [beq_iff_eq]; exact h1
    refine sat_of_vc (T := tiOf Tryz.prog) (E := E0) Tryz.func32 rfl rfl hE0 hm0 rfl ?_
    conv => whnf
    iterate 4
      repeat' (first | exact True.intro | ((first | refine Yb fun _ => ?_ | refine Yc fun _ => ?_ | refine Ya (by kernel_rfl) ?_ | refine Ya (by decide) ?_ | refine Yd (by decide) fun _ => ?_ | refine Ye (by decide) fun _ => ?_ | refine ⟨_, _, o1.at3 0 1 2 rfl rfl rfl rfl rfl rfl, ?_⟩); conv => whnf) | (refine Ya (fun _ => ?_) (fun _ => ?_) <;> conv => whnf))
      all_goals try (refine Or.inl ?_; conv => whnf)
    all_goals try exact (bnl d1 ‹_›).elim
    all_goals refine ⟨[(1, 5), (2, 6), (4, 5), (5, 6)], ?_⟩
    repeat (any_goals (first | exact True.intro | exact rfl | exact (by kernel_rfl) | refine Ya ?_ ?_))
    all_goals conv => whnf
  rw [if_neg h1]
  have d1 : (a.epoch == 0) = false := by rw [beq_eq_false_iff_ne]; exact h1
  cases h2 : rightB s with
  | false =>
    rw [if_pos rfl]
    rw [h2] at r1
    refine sat_of_vc (T := tiOf Tryz.prog) (E := E0) Tryz.func32 rfl rfl hE0 hm0 rfl ?_
    conv => whnf
    iterate 4
      repeat' (first | exact True.intro | ((first | refine Yb fun _ => ?_ | refine Yc fun _ => ?_ | refine Ya (by kernel_rfl) ?_ | refine Ya (by decide) ?_ | refine Yd (by decide) fun _ => ?_ | refine Ye (by decide) fun _ => ?_ | refine ⟨_, _, o1.at3 0 1 2 rfl rfl rfl rfl rfl rfl, ?_⟩ | refine ⟨_, _, r1.lendAg (i := 3) rfl rfl rfl, ?_⟩); conv => whnf) | (refine Ya (fun _ => ?_) (fun _ => ?_) <;> conv => whnf))
      all_goals try (refine Or.inl ?_; conv => whnf)
    all_goals try exact (bnl ‹_› d1).elim
    all_goals refine ⟨[(1, 5), (2, 6), (4, 5), (5, 6)], ?_⟩
    repeat (any_goals (first | exact True.intro | exact rfl | exact (by kernel_rfl) | refine Ya ?_ ?_))
    all_goals conv => whnf
  | true =>
  rw [if_neg (by simp)]
  rw [h2] at r1
  by_cases h3 : 1099511627775 ≤ a.seq
  · rw [if_pos h3]
    have d3 : decide (a.seq ≥ 1099511627775) = true := decide_eq_true h3
    refine sat_of_vc (T := tiOf Tryz.prog) (E := E0) Tryz.func32 rfl rfl hE0 hm0 rfl ?_
    conv => whnf
    iterate 5
      repeat' (first | exact True.intro | ((first | refine Yb fun _ => ?_ | refine Yc fun _ => ?_ | refine Ya (by kernel_rfl) ?_ | refine Ya (by decide) ?_ | refine Yd (by decide) fun _ => ?_ | refine Ye (by decide) fun _ => ?_ | refine ⟨_, _, o1.at3 0 1 2 rfl rfl rfl rfl rfl rfl, ?_⟩ | refine ⟨_, _, r1.lendAg (i := 3) rfl rfl rfl, ?_⟩); conv => whnf) | (refine Ya (fun _ => ?_) (fun _ => ?_) <;> conv => whnf))
      all_goals try (refine Or.inl ?_; conv => whnf)
    all_goals try exact (bnl ‹_› d1).elim
    all_goals try exact (bnl d3 ‹_›).elim
    all_goals refine ⟨[(1, 5), (2, 6), (4, 5), (5, 6)], ?_⟩
    repeat (any_goals (first | exact True.intro | exact rfl | exact (by kernel_rfl) | refine Ya ?_ ?_))
    all_goals conv => whnf
  rw [if_neg h3]
  have d3 : decide (a.seq ≥ 1099511627775) = false := decide_eq_false h3
  have hl : (a.kept.map evR).length = a.kept.length := List.length_map _
  by_cases h4 : a.most ≤ a.kept.length
  · rw [if_pos h4]
    have d4 : decide (((a.kept.map evR).length : Int) ≥ a.most) = true := decide_eq_true (by rw [hl]; exact h4)
    refine sat_of_vc (T := tiOf Tryz.prog) (E := E0) Tryz.func32 rfl rfl hE0 hm0 rfl ?_
    conv => whnf
    iterate 5
      repeat' (first | exact True.intro | ((first | refine Yb fun _ => ?_ | refine Yc fun _ => ?_ | refine Ya (by kernel_rfl) ?_ | refine Ya (by decide) ?_ | refine Yd (by decide) fun _ => ?_ | refine Ye (by decide) fun _ => ?_ | refine ⟨_, _, o1.at3 0 1 2 rfl rfl rfl rfl rfl rfl, ?_⟩ | refine ⟨_, _, r1.lendAg (i := 3) rfl rfl rfl, ?_⟩); conv => whnf) | (refine Ya (fun _ => ?_) (fun _ => ?_) <;> conv => whnf))
      all_goals try (refine Or.inl ?_; conv => whnf)
    repeat' (first | exact True.intro | ((first | refine Ya (fun _ => ?_) (fun h => (bnl d4 h).elim) | refine Yb fun _ => ?_ | refine Yc fun _ => ?_ | refine Ya (by kernel_rfl) ?_ | refine Ya (by decide) ?_ | refine Yd (by decide) fun _ => ?_ | refine Ye (by decide) fun _ => ?_); conv => whnf) | (refine Ya (fun _ => ?_) (fun _ => ?_) <;> conv => whnf))
    iterate 3
      repeat' (first | exact True.intro | ((first | refine Yb fun _ => ?_ | refine Yc fun _ => ?_ | refine Ya (by kernel_rfl) ?_ | refine Ya (by decide) ?_ | refine Yd (by decide) fun _ => ?_ | refine Ye (by decide) fun _ => ?_); conv => whnf) | (refine Ya (fun _ => ?_) (fun _ => ?_) <;> conv => whnf))
      all_goals try (refine Or.inl ?_; conv => whnf)
    all_goals try exact (bnl ‹_› d1).elim
    all_goals try exact (bnl ‹_› d3).elim
    all_goals try exact (bnl d4 ‹_›).elim
    all_goals refine ⟨[(1, 5), (2, 6), (4, 5), (5, 6)], ?_⟩
    repeat (any_goals (first | exact True.intro | exact rfl | exact (by kernel_rfl) | refine Ya ?_ ?_))
    all_goals conv => whnf
  rw [if_neg h4]
  have d4 : decide (((a.kept.map evR).length : Int) ≥ a.most) = false := decide_eq_false (by rw [hl]; exact h4)
  have c1 := copiedO_sat (a.clock, v, s) (by have := hrl h2; show s.2.length ≤ _; omega)
  have w1 : IntKind.i64.wrap (a.seq + 1) = a.seq + 1 := wi (by omega) (by omega)
  have w2 : IntKind.i64.wrap (a.seq + 1 - 1) = a.seq := by rw [show a.seq + 1 - 1 = a.seq by omega]; exact wi (by omega) (by omega)
  refine sat_of_vc (T := tiOf Tryz.prog) (E := E0) Tryz.func32 rfl rfl hE0 hm0 rfl ?_
  conv => whnf
  iterate 6
    repeat' (first | exact True.intro | ((first | refine Yb fun _ => ?_ | refine Yc fun _ => ?_ | refine Ya (by kernel_rfl) ?_ | refine Ya (by decide) ?_ | refine Yd (by decide) fun _ => ?_ | refine Ye (by decide) fun _ => ?_ | refine ⟨_, _, o1.at3 0 1 2 rfl rfl rfl rfl rfl rfl, ?_⟩ | refine ⟨_, _, r1.lendAg (i := 3) rfl rfl rfl, ?_⟩ | refine ⟨_, _, c1.at1 3 rfl rfl rfl, ?_⟩ | refine ⟨_, _, ap 4 56 (by kernel_rfl) rfl rfl (by simp; omega), ?_⟩); conv => whnf) | (refine Ya (fun _ => ?_) (fun _ => ?_) <;> conv => whnf))
    all_goals try (refine Or.inl ?_; conv => whnf)
  all_goals try exact (bnl ‹_› d1).elim
  all_goals try exact (bnl ‹_› d3).elim
  all_goals try exact (bnl ‹_› d4).elim
  all_goals refine ⟨[(2, 7), (4, 6), (5, 7)], ?_⟩
  repeat (any_goals (first | exact True.intro | exact rfl | exact (by kernel_rfl) | refine Ya ?_ ?_))
  all_goals conv => whnf
  · exact congrArg (fun z => iA z) (by rw [w1]; exact w2)
  · exact congrArg (fun z => iA z) w1
  · exact congrArg (AObj.sl 4) (by rw [List.map_append]; rfl)
section
variable {P : Program} {L : List AObj} {n : Nat} {g : FuncId}
theorem Sat.lendNewT {args args1 : List AV} {ids : List Nat} {s' : Nat} {rows' : List (List D)} {us : List Value} {e : Value} (h : Sat P g args1 [] (.tup [.own 0, .d (.v e)]) [.sl s' rows']) (hl : LendOk L args args1 ids) (hf : FlatVs rows'.flatten us) (hlive : ∀ i ∈ ids, ∃ o, L[i]? = some o ∧ o.live = true) :
    CallOK P g args L n ⟨ids, [], [.sl s' rows']⟩ (.tup [.own n, .d (.v e)]) := by
  intro H F ρ w vals En hrs hnew hv
  have hH : ∀ j ∈ ids, ∀ hh, ρ j = some hh → ∀ b, blkOf hh = some b → b < w.heap.size := by
    intro j hj hh hρ b hb
    obtain ⟨o, ho, hlv⟩ := hlive j hj
    obtain ⟨h0, e1, _, e3⟩ := En.rep j o (by rw [hrs j hj]; exact ho) hlv
    rw [hρ] at e1; injection e1 with e1; subst e1
    exact (e3 b hb).1
  let F1 : Nat → Prop := fun b => F b ∨ ∃ j ∈ ids, ∃ hh, ρ j = some hh ∧ blkOf hh = some b
  have E1 : Env F1 (fun _ => none) (hp []) w := ⟨fun b hb => hb.elim (En.fb b) fun ⟨j, hj, hh, h1, h2⟩ => hH j hj hh h1 b h2, fun _ _ => rfl, fun i o h => by simp [hp] at h, fun i j o o' _ _ _ h => by simp [hp] at h⟩
  refine (h F1 (fun _ => none) w vals E1 (hl F F1 ρ H w vals En (fun _ h => .inl h) hrs (fun j hj hh h1 b h2 => .inr ⟨j, hj, hh, h1, h2⟩) hv)).mono ?_
  rintro en w' ⟨v, rfl, F2, ρ2, S, _, E2, R⟩
  have nolv : ∀ b, ¬ Lv (fun _ => none) (hp []) b := fun b ⟨i, o, _, h, _⟩ => by simp [hp] at h
  have hG : w.grownBy w' none := ⟨S.os, S.tape, S.output, S.size, fun b hb _ => S.unch b hb (nolv b)⟩
  obtain ⟨hh, e1, ⟨vs, how, hra, hs⟩, e3⟩ := E2.rep 0 _ rfl rfl
  obtain rfl := hf.eq hra
  cases R with | tup R =>
  cases R with | cons R0 R1 =>
  cases R1 with | cons R1 R2 =>
  cases R2 with | nil =>
  cases R0 with | own R =>
  rw [R] at e1; injection e1 with e1; subst e1
  have hn : H n = none := by simpa using hnew 0 (by simp)
  obtain ⟨S', K', E'⟩ := En.new (n := n) (o' := .sl s' rows') (h := .slice _ _ _) hn hG (fun b hb => ⟨(S.lsrc b ⟨0, _, _, rfl, rfl, R, hb⟩).elim id fun q => (nolv b q).elim, (e3 b hb).1⟩) ⟨_, how, hf.rds, hs⟩
  obtain rfl := R1.v_out
  exact ⟨_, rfl, F, _, S', K', E', .tup (.cons (.own (updF_same _ _ _)) (.cons (.d (.v _)) .nil))⟩
theorem CallOK.frzT {args : List AV} {rs : List Nat} {ws : List (Nat × AObj)} {s : Nat} {rows : List (List D)} {e : Value} (h : CallOK P g args L n ⟨rs, ws, [.sl s rows]⟩ (.tup [.own n, .d (.v e)])) : CallOK P g args L n ⟨rs, ws, [.dead]⟩ (.tup [.d (.sl s rows), .d (.v e)]) := by
  intro H F ρ w vals En hrs hnew hv
  refine (h H F ρ w vals En hrs hnew hv).mono ?_
  rintro en w' ⟨v, rfl, F', ρ', S, K, E', R⟩
  have hn' : appN n [AObj.sl s rows] (appW ws H) n = some (.sl s rows) := updF_same _ _ _
  cases R with | tup R =>
  cases R with | cons R0 R1 =>
  cases R1 with | cons R1 R2 =>
  cases R2 with | nil =>
  cases R0 with | own R =>
  rename_i A m c
  obtain ⟨hh, e1, ⟨vs, how, hra, hs1⟩, e3⟩ := E'.rep n _ hn' rfl
  rw [R] at e1; injection e1 with e1; subst e1
  obtain ⟨A', c', he, g1, g2, hrd⟩ := how.form
  injection he with q1 q2 q3
  subst q1 q2 q3
  obtain ⟨S1, E1⟩ := E'.freeze hn' rfl R
  have eH : updF (appN n [AObj.sl s rows] (appW ws H)) n (some .dead) = appN n [.dead] (appW ws H) := by
    funext j
    show updF (updF (appW ws H) n _) n _ j = updF (appW ws H) n _ j
    by_cases e : j = n
    · subst e; rw [updF_same, updF_same]
    · rw [updF_ne _ _ e, updF_ne _ _ e, updF_ne _ _ e]
  rw [eH] at S1 E1
  have hd : RD w' (fun b => F' b ∨ blkOf (.slice A rows.length c) = some b) (.sl s rows) (.slice A rows.length c) := .sl rfl hs1 g1 g2 (hra.mono (fun _ _ => rfl) fun _ h => .inl h) fun hp' => by
    obtain ⟨b, off, rfl, hb, hc⟩ := hrd.2 hp'
    exact ⟨b, off, rfl, .inr rfl, hc⟩
  obtain rfl := R1.v_out
  exact ⟨_, rfl, _, ρ', S.trans S1, K, E1, .tup (.cons (.d hd) (.cons (.d (.v _)) .nil))⟩
end
theorem copyBytesD_sat (l : Bt) (hl : l.length ≤ 1000000) : Sat Tryz.prog 37 [.d (bsD l)] [] (.d (bsD l)) [] := by
  intro F ρ w vals En hv
  obtain ⟨v, rfl, hv'⟩ := hv.one_out
  cases hv' with | d hv =>
  obtain ⟨A1, c1, rfl, k1, k2, k3⟩ := hv.sl_rd En.fb (bR_flats l)
  rw [List.length_map] at k1 k3 ⊢
  refine (copyBytes_any A1 _ c1 l w k3 (by omega)).mono ?_
  rintro x w' ⟨v, rfl, how, hb⟩
  obtain ⟨F1, ρ1, S, K, E, R⟩ := data_ret En (bR_flats l) one_len (by rw [List.length_map]; exact how) hb
  exact ⟨_, rfl, F1, ρ1, S, K, E, .d R⟩
abbrev rfC (b : Int) : List AV := [iA 0, iA 0, iA b, iA 0, iA 0, iA 0, iA 0, .d nilV, iA 0, .d nilV]
theorem rfHear_sat (r : Int) : Sat Tryz.prog 74 [.ptr 0 0, iA r] [.cells (rfC 0)] (iA 21) [.cells (rfC 0)] := by
  refine sat_of_vc (T := tiOf Tryz.prog) (E := E0) Tryz.func74 rfl rfl hE0 hm0 rfl ?_
  conv => whnf
  iterate 4
    repeat' (first | exact True.intro | ((first | refine Yb fun _ => ?_ | refine Yc fun _ => ?_ | refine Ya (by kernel_rfl) ?_ | refine Ya (by decide) ?_ | refine Yd (by decide) fun _ => ?_ | refine Ye (by decide) fun _ => ?_); conv => whnf) | (refine Ya (fun _ => ?_) (fun _ => ?_) <;> conv => whnf))
    all_goals try (refine Or.inl ?_; conv => whnf)
  all_goals refine ⟨[], ?_⟩
  repeat (any_goals (first | exact True.intro | exact rfl | exact (by kernel_rfl) | refine Ya ?_ ?_))
  all_goals conv => whnf
theorem rfStart_sat (b : Int) : Sat Tryz.prog 34 [.ptr 0 0, iA b] [.cells (rfC 0)] (iA (if b < 1 ∨ 1099511627776 < b then 11 else 0)) [.dead] := by
  by_cases h1 : b < 1 ∨ 1099511627776 < b
  · rw [if_pos h1]
    have hneg : ¬ (decide (b < 1) = false ∧ decide (b > 1099511627776) = false) := by
      rintro ⟨p1, p2⟩
      have p1 := of_decide_eq_false p1
      have p2 := of_decide_eq_false p2
      omega
    refine sat_of_vc (T := tiOf Tryz.prog) (E := E0) Tryz.func34 rfl rfl hE0 hm0 rfl ?_
    conv => whnf
    iterate 4
      repeat' (first | exact True.intro | ((first | refine Yb fun _ => ?_ | refine Yc fun _ => ?_ | refine Ya (by kernel_rfl) ?_ | refine Ya (by decide) ?_ | refine Yd (by decide) fun _ => ?_ | refine Ye (by decide) fun _ => ?_); conv => whnf) | (refine Ya (fun _ => ?_) (fun _ => ?_) <;> conv => whnf))
      all_goals try (refine Or.inl ?_; conv => whnf)
    all_goals try exact (hneg ⟨‹_›, ‹_›⟩).elim
    all_goals refine ⟨[], ?_⟩
    repeat (any_goals (first | exact True.intro | exact rfl | exact (by kernel_rfl) | refine Ya ?_ ?_))
    all_goals conv => whnf
  · rw [if_neg h1]
    have d1 : decide (b < 1) = false := decide_eq_false (by omega)
    have d2 : decide (b > 1099511627776) = false := decide_eq_false (by omega)
    have d3 : decide (b ≤ 0) = false := decide_eq_false (by omega)
    refine sat_of_vc (T := tiOf Tryz.prog) (E := E0) Tryz.func34 rfl rfl hE0 hm0 rfl ?_
    conv => whnf
    iterate 4
      repeat' (first | exact True.intro | ((first | refine Yb fun _ => ?_ | refine Yc fun _ => ?_ | refine Ya (by kernel_rfl) ?_ | refine Ya (by decide) ?_ | refine Yd (by decide) fun _ => ?_ | refine Ye (by decide) fun _ => ?_); conv => whnf) | (refine Ya (fun _ => ?_) (fun _ => ?_) <;> conv => whnf))
      all_goals try (refine Or.inl ?_; conv => whnf)
    all_goals try exact (bnl ‹_› d1).elim
    all_goals try exact (bnl ‹_› d2).elim
    all_goals try exact (bnl ‹_› d3).elim
    all_goals refine ⟨[], ?_⟩
    repeat (any_goals (first | exact True.intro | exact rfl | exact (by kernel_rfl) | refine Ya ?_ ?_))
    all_goals conv => whnf
theorem rfMeasure_sat (r v : Int) (s : Ser) : Sat Tryz.prog 35 [.ptr 0 0, iA r, iA v, .d (serD s)] [.cells (rfC 0)] (.tup [iA (-1), iA 21]) [.cells (rfC 0)] := by
  have h1 := rfHear_sat r
  refine sat_of_vc (T := tiOf Tryz.prog) (E := E0) Tryz.func35 rfl rfl hE0 hm0 rfl ?_
  conv => whnf
  iterate 4
    repeat' (first | exact True.intro | ((first | refine Yb fun _ => ?_ | refine Yc fun _ => ?_ | refine Ya (by kernel_rfl) ?_ | refine Ya (by decide) ?_ | refine Yd (by decide) fun _ => ?_ | refine Ye (by decide) fun _ => ?_ | refine ⟨_, _, h1.at1 0 rfl rfl rfl, ?_⟩); conv => whnf) | (refine Ya (fun _ => ?_) (fun _ => ?_) <;> conv => whnf))
    all_goals try (refine Or.inl ?_; conv => whnf)
  all_goals refine ⟨[], ?_⟩
  repeat (any_goals (first | exact True.intro | exact rfl | exact (by kernel_rfl) | refine Ya ?_ ?_))
  all_goals conv => whnf
theorem rfTake_sat (r : Int) (l : Bt) : Sat Tryz.prog 38 [.ptr 0 0, iA r, .d (bsD l)] [.cells (rfC 0)] (iA 21) [.cells (rfC 0)] := by
  have h1 := rfHear_sat r
  refine sat_of_vc (T := tiOf Tryz.prog) (E := E0) Tryz.func38 rfl rfl hE0 hm0 rfl ?_
  conv => whnf
  iterate 4
    repeat' (first | exact True.intro | ((first | refine Yb fun _ => ?_ | refine Yc fun _ => ?_ | refine Ya (by kernel_rfl) ?_ | refine Ya (by decide) ?_ | refine Yd (by decide) fun _ => ?_ | refine Ye (by decide) fun _ => ?_ | refine ⟨_, _, h1.at1 0 rfl rfl rfl, ?_⟩); conv => whnf) | (refine Ya (fun _ => ?_) (fun _ => ?_) <;> conv => whnf))
    all_goals try (refine Or.inl ?_; conv => whnf)
  all_goals refine ⟨[], ?_⟩
  repeat (any_goals (first | exact True.intro | exact rfl | exact (by kernel_rfl) | refine Ya ?_ ?_))
  all_goals conv => whnf
theorem rfStep_sat (r : Int) : Sat Tryz.prog 39 [.ptr 0 0, iA r] [.cells (rfC 0)] (.tup [.d nilV, iA 21]) [.cells (rfC 0)] := by
  have h1 := rfHear_sat r
  refine sat_of_vc (T := tiOf Tryz.prog) (E := E0) Tryz.func39 rfl rfl hE0 hm0 rfl ?_
  conv => whnf
  iterate 4
    repeat' (first | exact True.intro | ((first | refine Yb fun _ => ?_ | refine Yc fun _ => ?_ | refine Ya (by kernel_rfl) ?_ | refine Ya (by decide) ?_ | refine Yd (by decide) fun _ => ?_ | refine Ye (by decide) fun _ => ?_ | refine ⟨_, _, h1.at1 0 rfl rfl rfl, ?_⟩); conv => whnf) | (refine Ya (fun _ => ?_) (fun _ => ?_) <;> conv => whnf))
    all_goals try (refine Or.inl ?_; conv => whnf)
  all_goals refine ⟨[], ?_⟩
  repeat (any_goals (first | exact True.intro | exact rfl | exact (by kernel_rfl) | refine Ya ?_ ?_))
  all_goals conv => whnf
def bareP (f : Fr) : Prop := f.ev = [] ∧ f.sr = ([], []) ∧ f.d = []
theorem bare_le {f : Fr} (h : bareP f) : nilLe (nilR f) (frR f) := by
  obtain ⟨kk, a, e, b, c, g, s, n, t, w, ev, sr, d⟩ := f
  obtain ⟨rfl, rfl, rfl⟩ : ev = [] ∧ sr = ([], []) ∧ d = [] := h
  repeat' (first | exact trivial | refine And.intro ?_ ?_ | exact .inl rfl | exact .inr ⟨rfl, _, rfl⟩)
theorem encD {f : Fr} (hb : bareP f) (hf : FrOk f) (hr : rightF f = true) (hL : (encodeT f).length ≤ 65536) (L : List AObj) (n : Nat) : CallOK Tryz.prog 26 [.d (.agg (nilR f))] L n ⟨[], [], [.dead]⟩ (.tup [.d (bsD (encodeT f)), iA 0]) :=
  CallOK.frzT ((encode_pre (encode_ok f hf (fun x hx => by rw [hb.1] at hx; cases hx) hr hL) (bare_le hb)).nw rfl)
theorem sendN_sat {f : Fr} (hb : bareP f) (hf : FrOk f) (hr : rightF f = true) (hL : (encodeT f).length ≤ 65536) : Sat Tryz.prog 46 [.d (.agg (nilR f)), .ptr 0 0] [.cells [.d nilV]] (iA 0) [.cells [.own 1], .sl 1 [[bsD (encodeT f)]]] := by
  have e1 := encD hb hf hr hL
  generalize encodeT f = b at *
  refine sat_of_vc (T := tiOf Tryz.prog) (E := E0) Tryz.func46 rfl rfl hE0 hm0 rfl ?_
  conv => whnf
  iterate 5
    repeat' (first | exact True.intro | ((first | refine Yb fun _ => ?_ | refine Yc fun _ => ?_ | refine Ya (by kernel_rfl) ?_ | refine Ya (by decide) ?_ | refine Yd (by decide) fun _ => ?_ | refine Ye (by decide) fun _ => ?_ | refine ⟨_, _, e1 _ _, ?_⟩ | refine ⟨_, _, ap0 1 24 (by kernel_rfl) rfl (by simp), ?_⟩); conv => whnf) | (refine Ya (fun _ => ?_) (fun _ => ?_) <;> conv => whnf))
    all_goals try (refine Or.inl ?_; conv => whnf)
  all_goals refine ⟨[(1, 4)], ?_⟩
  repeat (any_goals (first | exact True.intro | exact rfl | exact (by kernel_rfl) | refine Ya ?_ ?_))
  all_goals conv => whnf
theorem sendO_sat {f : Fr} (hb : bareP f) (hf : FrOk f) (hr : rightF f = true) (hL : (encodeT f).length ≤ 65536) (rows : List (List D)) (hn : rows.length ≤ 1000) : Sat Tryz.prog 46 [.d (.agg (nilR f)), .ptr 0 0] [.cells [.own 1], .sl 1 rows] (iA 0) [.cells [.own 2], .dead, .sl 1 (rows ++ [[bsD (encodeT f)]])] := by
  have e1 := encD hb hf hr hL
  generalize encodeT f = b at *
  refine sat_of_vc (T := tiOf Tryz.prog) (E := E0) Tryz.func46 rfl rfl hE0 hm0 rfl ?_
  conv => whnf
  iterate 5
    repeat' (first | exact True.intro | ((first | refine Yb fun _ => ?_ | refine Yc fun _ => ?_ | refine Ya (by kernel_rfl) ?_ | refine Ya (by decide) ?_ | refine Yd (by decide) fun _ => ?_ | refine Ye (by decide) fun _ => ?_ | refine ⟨_, _, e1 _ _, ?_⟩ | refine ⟨_, _, ap 1 24 (by kernel_rfl) rfl rfl (by simp; omega), ?_⟩); conv => whnf) | (refine Ya (fun _ => ?_) (fun _ => ?_) <;> conv => whnf))
    all_goals try (refine Or.inl ?_; conv => whnf)
  all_goals refine ⟨[(2, 5)], ?_⟩
  repeat (any_goals (first | exact True.intro | exact rfl | exact (by kernel_rfl) | refine Ya ?_ ?_))
  all_goals conv => whnf
theorem frame_sat (a : Ag) (k : Int) : Sat Tryz.prog 47 [.ptr 0 0, iA k] (agH a) (.d (.agg (nilR ⟨k, a.id, a.epoch, 0, 0, 0, 0, 0, 0, 0, [], ([], []), []⟩))) (agH a) := by
  refine sat_of_vc (T := tiOf Tryz.prog) (E := E0) Tryz.func47 rfl rfl hE0 hm0 rfl ?_
  conv => whnf
  iterate 4
    repeat' (first | exact True.intro | ((first | refine Yb fun _ => ?_ | refine Yc fun _ => ?_ | refine Ya (by kernel_rfl) ?_ | refine Ya (by decide) ?_ | refine Yd (by decide) fun _ => ?_ | refine Ye (by decide) fun _ => ?_); conv => whnf) | (refine Ya (fun _ => ?_) (fun _ => ?_) <;> conv => whnf))
    all_goals try (refine Or.inl ?_; conv => whnf)
  all_goals refine ⟨[], ?_⟩
  repeat (any_goals (first | exact True.intro | exact rfl | exact (by kernel_rfl) | refine Ya ?_ ?_))
  all_goals conv => whnf
section
variable {P : Program} {L : List AObj} {n : Nat} {g : FuncId} {F F1 : Nat → Prop} {ρ : Nat → Option Value} {H : Hp} {w : World}
theorem piece_rd {i s k : Nat} {rows : List (List D)} (En : Env F ρ H w) (hi : H i = some (.sl s rows)) (hF : ∀ b, F b → F1 b) (hb : ∀ h, ρ i = some h → ∀ b, blkOf h = some b → F1 b) (hk : k ≤ rows.length) {v : Value} (hv : RA w F ρ (.rel i (pcP s 0 k)) v) : RD w F1 (.sl s (rows.take k)) v := by
  cases hv with | rel R hp =>
  obtain ⟨A, m, c, rfl, h1, h2, rfl⟩ := hp
  have h := own_rd En hi hF hb (.own R)
  obtain ⟨q1, q2, q3⟩ := h.piece (Nat.zero_le k) hk
  rw [List.drop_zero] at q3
  exact q3
theorem flat_mid {x : D} {y : AV} {ys : List D} (hF : ∀ b, F b → F1 b) (h : ∀ v, RA w F ρ y v → RD w F1 x v) : ∀ {xs : List D} {vs : List Value}, RAs w F ρ (xs.map .d ++ y :: ys.map .d) vs → (∀ c ∈ vs, c.oneCell' = true) → RDs w F1 (xs ++ x :: ys) vs
  | [], _, h0, h1 => by
    cases h0 with | cons h2 h3 =>
    exact .cons (h _ h2) (h1 _ (List.mem_cons_self ..)) ((ras_rds h3 fun c hc => h1 c (List.mem_cons_of_mem _ hc)).mono (fun _ _ => rfl) hF)
  | z :: xs, _, h0, h1 => by
    cases h0 with | cons h2 h3 =>
    cases h2 with | d h2 => exact .cons (h2.mono (fun _ _ => rfl) hF) (h1 _ (List.mem_cons_self ..)) (flat_mid hF h (xs := xs) h3 fun c hc => h1 c (List.mem_cons_of_mem _ hc))
theorem lendOk_mid {i s k : Nat} {rows : List (List D)} {xs ys : List D} (hi : L[i]? = some (.sl s rows)) (hk : k ≤ rows.length) : LendOk L [.agg (xs.map .d ++ .rel i (pcP s 0 k) :: ys.map .d)] [.d (.agg (xs ++ .sl s (rows.take k) :: ys))] [i] := by
  intro F F1 ρ H w vals En hF hrs hb hv
  have hHi : H i = some (.sl s rows) := (hrs i (by simp)).trans hi
  obtain ⟨v, rfl, hv'⟩ := hv.one_out
  cases hv' with | agg h1 h2 =>
  exact .cons (.d (.agg (flat_mid hF (fun v hv => piece_rd En hHi hF (hb i (by simp)) hk hv) h1 h2))) .nil
end
def batchF (a : Ag) (k : Nat) : Fr := ⟨5, a.id, a.epoch, 0, 0, 0, 0, firstA a, 0, 0, a.kept.take k, ([], []), []⟩
abbrev batC (a : Ag) (y : AV) : List AV := [iA 5, iA a.id, iA a.epoch, iA 0, iA 0, iA 0, iA 0, iA (firstA a), iA 0, iA 0, y, .d (tD []), .d nilV, .d nilV]
theorem bat_le (a : Ag) (k : Nat) : nilLe [iD 5, iD a.id, iD a.epoch, iD 0, iD 0, iD 0, iD 0, iD (firstA a), iD 0, iD 0, .sl 4 ((a.kept.map evR).take k), tD [], nilV, nilV] (frR (batchF a k)) := by
  rw [← List.map_take]
  repeat' (first | exact trivial | refine And.intro ?_ ?_ | exact .inl rfl | exact .inr ⟨rfl, _, rfl⟩)
theorem encB {L : List AObj} {i : Nat} (a : Ag) (k : Nat) (hi : L[i]? = some (.sl 4 (a.kept.map evR))) (hk : k ≤ a.kept.length) (hf : FrOk (batchF a k)) (hz : ∀ x ∈ a.kept, in64 x.2.1) (hr : rightF (batchF a k) = true) (hL : (encodeT (batchF a k)).length ≤ 65536) (n : Nat) :
    CallOK Tryz.prog 26 [.agg (batC a (.rel i (pcP 4 0 k)))] L n ⟨[i], [], [.dead]⟩ (.tup [.d (bsD (encodeT (batchF a k))), iA 0]) :=
  CallOK.frzT (Sat.lendNewT (encode_pre (encode_ok (batchF a k) hf (fun x hx => hz x (List.mem_of_mem_take hx)) hr hL) (bat_le a k)) (lendOk_mid (xs := [iD 5, iD a.id, iD a.epoch, iD 0, iD 0, iD 0, iD 0, iD (firstA a), iD 0, iD 0]) (ys := [tD [], nilV, nilV]) hi (by rw [List.length_map]; exact hk)) (bR_flats _) fun j hj => by rw [List.mem_singleton.1 hj]; exact ⟨_, hi, rfl⟩)
theorem encBbig {L : List AObj} {i : Nat} (a : Ag) (k : Nat) (hi : L[i]? = some (.sl 4 (a.kept.map evR))) (hk : k ≤ a.kept.length) (hf : FrOk (batchF a k)) (hz : ∀ x ∈ a.kept, in64 x.2.1) (hr : rightF (batchF a k) = true) (hL : 65536 < (encodeT (batchF a k)).length) (n : Nat) :
    CallOK Tryz.prog 26 [.agg (batC a (.rel i (pcP 4 0 k)))] L n ⟨[i], [], []⟩ (.tup [.d nilV, iA 17]) :=
  Sat.lendG (encode_pre (encode_big (batchF a k) hf (fun x hx => hz x (List.mem_of_mem_take hx)) hr hL) (bat_le a k)) (lendOk_mid (xs := [iD 5, iD a.id, iD a.epoch, iD 0, iD 0, iD 0, iD 0, iD (firstA a), iD 0, iD 0]) (ys := [tD [], nilV, nilV]) hi (by rw [List.length_map]; exact hk)) rfl fun j hj => by rw [List.mem_singleton.1 hj]; exact ⟨_, hi, rfl⟩
theorem sendBN_sat (a : Ag) (k : Nat) (hk : k ≤ a.kept.length) (hf : FrOk (batchF a k)) (hz : ∀ x ∈ a.kept, in64 x.2.1) (hr : rightF (batchF a k) = true) (hL : (encodeT (batchF a k)).length ≤ 65536) :
    Sat Tryz.prog 46 [.agg (batC a (.rel 1 (pcP 4 0 k))), .ptr 0 0] [.cells [.d nilV], .sl 4 (a.kept.map evR)] (iA 0) [.cells [.own 2], .sl 4 (a.kept.map evR), .sl 1 [[bsD (encodeT (batchF a k))]]] := by
  have e1 := fun (L : List AObj) (h : L[1]? = some (.sl 4 (a.kept.map evR))) => encB (i := 1) a k h hk hf hz hr hL
  generalize encodeT (batchF a k) = b at *
  refine sat_of_vc (T := tiOf Tryz.prog) (E := E0) Tryz.func46 rfl rfl hE0 hm0 rfl ?_
  conv => whnf
  iterate 5
    repeat' (first | exact True.intro | ((first | refine Yb fun _ => ?_ | refine Yc fun _ => ?_ | refine Ya (by kernel_rfl) ?_ | refine Ya (by decide) ?_ | refine Yd (by decide) fun _ => ?_ | refine Ye (by decide) fun _ => ?_ | refine ⟨_, _, e1 _ rfl _, ?_⟩ | refine ⟨_, _, ap0 1 24 (by kernel_rfl) rfl (by simp), ?_⟩); conv => whnf) | (refine Ya (fun _ => ?_) (fun _ => ?_) <;> conv => whnf))
    all_goals try (refine Or.inl ?_; conv => whnf)
  all_goals refine ⟨[(2, 5)], ?_⟩
  repeat (any_goals (first | exact True.intro | exact rfl | exact (by kernel_rfl) | refine Ya ?_ ?_))
  all_goals conv => whnf
theorem sendBO_sat (a : Ag) (k : Nat) (hk : k ≤ a.kept.length) (hf : FrOk (batchF a k)) (hz : ∀ x ∈ a.kept, in64 x.2.1) (hr : rightF (batchF a k) = true) (hL : (encodeT (batchF a k)).length ≤ 65536) (rows : List (List D)) (hn : rows.length ≤ 1000) :
    Sat Tryz.prog 46 [.agg (batC a (.rel 2 (pcP 4 0 k))), .ptr 0 0] [.cells [.own 1], .sl 1 rows, .sl 4 (a.kept.map evR)] (iA 0) [.cells [.own 3], .dead, .sl 4 (a.kept.map evR), .sl 1 (rows ++ [[bsD (encodeT (batchF a k))]])] := by
  have e1 := fun (L : List AObj) (h : L[2]? = some (.sl 4 (a.kept.map evR))) => encB (i := 2) a k h hk hf hz hr hL
  generalize encodeT (batchF a k) = b at *
  refine sat_of_vc (T := tiOf Tryz.prog) (E := E0) Tryz.func46 rfl rfl hE0 hm0 rfl ?_
  conv => whnf
  iterate 5
    repeat' (first | exact True.intro | ((first | refine Yb fun _ => ?_ | refine Yc fun _ => ?_ | refine Ya (by kernel_rfl) ?_ | refine Ya (by decide) ?_ | refine Yd (by decide) fun _ => ?_ | refine Ye (by decide) fun _ => ?_ | refine ⟨_, _, e1 _ rfl _, ?_⟩ | refine ⟨_, _, ap 1 24 (by kernel_rfl) rfl rfl (by simp; omega), ?_⟩); conv => whnf) | (refine Ya (fun _ => ?_) (fun _ => ?_) <;> conv => whnf))
    all_goals try (refine Or.inl ?_; conv => whnf)
  all_goals refine ⟨[(3, 6)], ?_⟩
  repeat (any_goals (first | exact True.intro | exact rfl | exact (by kernel_rfl) | refine Ya ?_ ?_))
  all_goals conv => whnf
theorem sendBNbig_sat (a : Ag) (k : Nat) (hk : k ≤ a.kept.length) (hf : FrOk (batchF a k)) (hz : ∀ x ∈ a.kept, in64 x.2.1) (hr : rightF (batchF a k) = true) (hL : 65536 < (encodeT (batchF a k)).length) :
    Sat Tryz.prog 46 [.agg (batC a (.rel 1 (pcP 4 0 k))), .ptr 0 0] [.cells [.d nilV], .sl 4 (a.kept.map evR)] (iA 17) [.cells [.d nilV], .sl 4 (a.kept.map evR)] := by
  have e1 := fun (L : List AObj) (h : L[1]? = some (.sl 4 (a.kept.map evR))) => encBbig (i := 1) a k h hk hf hz hr hL
  refine sat_of_vc (T := tiOf Tryz.prog) (E := E0) Tryz.func46 rfl rfl hE0 hm0 rfl ?_
  conv => whnf
  iterate 5
    repeat' (first | exact True.intro | ((first | refine Yb fun _ => ?_ | refine Yc fun _ => ?_ | refine Ya (by kernel_rfl) ?_ | refine Ya (by decide) ?_ | refine Yd (by decide) fun _ => ?_ | refine Ye (by decide) fun _ => ?_ | refine ⟨_, _, e1 _ rfl _, ?_⟩); conv => whnf) | (refine Ya (fun _ => ?_) (fun _ => ?_) <;> conv => whnf))
    all_goals try (refine Or.inl ?_; conv => whnf)
  all_goals refine ⟨[], ?_⟩
  repeat (any_goals (first | exact True.intro | exact rfl | exact (by kernel_rfl) | refine Ya ?_ ?_))
  all_goals conv => whnf
theorem sendBObig_sat (a : Ag) (k : Nat) (hk : k ≤ a.kept.length) (hf : FrOk (batchF a k)) (hz : ∀ x ∈ a.kept, in64 x.2.1) (hr : rightF (batchF a k) = true) (hL : 65536 < (encodeT (batchF a k)).length) (rows : List (List D)) :
    Sat Tryz.prog 46 [.agg (batC a (.rel 2 (pcP 4 0 k))), .ptr 0 0] [.cells [.own 1], .sl 1 rows, .sl 4 (a.kept.map evR)] (iA 17) [.cells [.own 1], .sl 1 rows, .sl 4 (a.kept.map evR)] := by
  have e1 := fun (L : List AObj) (h : L[2]? = some (.sl 4 (a.kept.map evR))) => encBbig (i := 2) a k h hk hf hz hr hL
  refine sat_of_vc (T := tiOf Tryz.prog) (E := E0) Tryz.func46 rfl rfl hE0 hm0 rfl ?_
  conv => whnf
  iterate 5
    repeat' (first | exact True.intro | ((first | refine Yb fun _ => ?_ | refine Yc fun _ => ?_ | refine Ya (by kernel_rfl) ?_ | refine Ya (by decide) ?_ | refine Yd (by decide) fun _ => ?_ | refine Ye (by decide) fun _ => ?_ | refine ⟨_, _, e1 _ rfl _, ?_⟩); conv => whnf) | (refine Ya (fun _ => ?_) (fun _ => ?_) <;> conv => whnf))
    all_goals try (refine Or.inl ?_; conv => whnf)
  all_goals refine ⟨[], ?_⟩
  repeat (any_goals (first | exact True.intro | exact rfl | exact (by kernel_rfl) | refine Ya ?_ ?_))
  all_goals conv => whnf
theorem right_of {f : Fr} {k : Nat} (hk : f.k = k) (h1 : 1 ≤ k) (h8 : k ≤ 8) (hh : headOk f = true) (hv : ∀ x ∈ valsK f k, 0 ≤ x ∧ x ≤ 4611686018427387903) (hx : extraB f k = true) (hs : f = bareF f k) : rightF f = true := by
  unfold rightF
  rw [if_pos (by omega), hk, Int.toNat_natCast]
  unfold rightK
  rw [hh, hx, sameB_iff.2 hs]
  simp only [Bool.true_and, Bool.and_true, List.all_eq_true]
  exact fun x hx => rngB_iff.2 (hv x hx)
def helloF (a : Ag) : Fr := ⟨1, a.id, a.epoch, a.boot, 0, 0, 0, 0, 0, 0, [], ([], []), []⟩
def replyF (a : Ag) (p : Int × Int × Int) : Fr := ⟨4, a.id, a.epoch, p.1, p.2.1, p.2.2, a.clock, 0, 0, 0, [], ([], []), []⟩
def beatF (a : Ag) : Fr := ⟨7, a.id, a.epoch, 0, 0, 0, 0, a.seq, a.clock, 0, [], ([], []), []⟩
theorem head_ok {a : Ag} (h : AgInv a) {f : Fr} (h1 : f.a = a.id) (h2 : f.e = a.epoch) : headOk f = true :=
  headOk_iff.2 ⟨by rw [h1]; exact h.id, by rw [h2]; exact h.epoch⟩
theorem hello_right {a : Ag} (h : AgInv a) (he : a.epoch = 0) : rightF (helloF a) = true := by
  refine right_of (k := 1) rfl (by decide) (by decide) (head_ok h rfl rfl) ?_ rfl ?_
  · have hi := h.id
    have hb := h.boot
    intro x hx
    simp [valsK, idxK, getN, helloF] at hx
    rcases hx with rfl | rfl <;> omega
  · simp [helloF, bareF, bnum, idxK, getN, he]
theorem reply_right {a : Ag} (h : AgInv a) {p : Int × Int × Int} (hp : p ∈ a.probes) : rightF (replyF a p) = true := by
  obtain ⟨p1, p2, p3, p4⟩ := h.pr p hp
  have hc := h.clock
  refine right_of (k := 4) rfl (by decide) (by decide) (head_ok h rfl rfl) ?_ ?_ ?_
  · have hi := h.id
    have hb := h.epoch
    intro x hx
    simp [valsK, idxK, getN, replyF] at hx
    rcases hx with rfl | rfl | rfl | rfl | rfl | rfl <;> omega
  · show (!decide (a.clock < p.2.2)) = true
    rw [decide_eq_false (by omega)]; rfl
  · simp [replyF, bareF, bnum, idxK, getN]
theorem beat_right {a : Ag} (h : AgInv a) : rightF (beatF a) = true := by
  have hc := h.clock
  have hs := h.seq
  have hf : 0 ≤ a.seq - (a.kept.length : Int) := h.first
  refine right_of (k := 7) rfl (by decide) (by decide) (head_ok h rfl rfl) ?_ ?_ ?_
  · have hi := h.id
    have hb := h.epoch
    intro x hx
    simp [valsK, idxK, getN, beatF] at hx
    rcases hx with rfl | rfl | rfl | rfl <;> omega
  · show decide (a.seq ≤ 1099511627776) = true
    exact decide_eq_true (by omega)
  · simp [beatF, bareF, bnum, idxK, getN]
theorem batch_right {a : Ag} (h : AgInv a) {k : Nat} (h1 : 1 ≤ k) (h2 : k ≤ a.kept.length) (h64 : k ≤ 64) : rightF (batchF a k) = true := by
  have hs := h.seq
  have hf : 0 ≤ a.seq - (a.kept.length : Int) := h.first
  have hfa : firstA a = a.seq - (a.kept.length : Int) := rfl
  have hlen : (a.kept.take k).length = k := by rw [List.length_take]; omega
  refine right_of (k := 5) rfl (by decide) (by decide) (head_ok h rfl rfl) ?_ ?_ ?_
  · have hi := h.id
    have hb := h.epoch
    intro x hx
    simp [valsK, idxK, getN, batchF] at hx
    rcases hx with rfl | rfl | rfl <;> omega
  · show batchB (firstA a) (a.kept.take k) = true
    unfold batchB
    rw [hlen, decide_eq_true h1, decide_eq_true h64, decide_eq_true (show firstA a ≤ 1099511627776 - (k : Int) by omega)]
    simp only [Bool.true_and, List.all_eq_true]
    exact fun x hx => (h.ev x (List.mem_of_mem_take hx)).1
  · simp [batchF, bareF, bnum, idxK, getN]
theorem small_len {f : Fr} {k : Nat} (hk : f.k = k) (h5 : k ≠ 5) (hd : f.d = []) : (encodeT f).length ≤ 65536 := by
  have := frT_len f k h5 (by rw [hd]; simp)
  unfold encodeT
  rw [hk, sealT_len]
  show (frT f k).length + 4 ≤ _
  omega
theorem batch_one {a : Ag} : (encodeT (batchF a 1)).length ≤ 65536 := by
  have h := frT_len5 (batchF a 1)
  have hl : (batchF a 1).ev.length ≤ 1 := by show (a.kept.take 1).length ≤ 1; rw [List.length_take]; omega
  unfold encodeT
  rw [sealT_len]
  show (frT (batchF a 1) 5).length + 4 ≤ _
  omega
theorem z64 : in64 0 := ⟨by decide, by decide⟩
theorem lab_len {a : Ag} (h : AgInv a) {x : Evt} (hx : x ∈ a.kept) : x.2.2.2.length ≤ 8 := by
  have := (h.ev x hx).1
  unfold evOk at this
  rw [Bool.and_eq_true] at this
  exact (right_out this.2).2.1
theorem hello_fok {a : Ag} (h : AgInv a) : FrOk (helloF a) := by
  have h1 := h.id
  have h2 := h.epoch
  have h3 := h.boot
  exact ⟨(⟨by decide, by decide⟩ : in64 1), (⟨by omega, by omega⟩ : in64 a.id), (⟨by omega, by omega⟩ : in64 a.epoch), (⟨by omega, by omega⟩ : in64 a.boot), z64, z64, z64, z64, z64, z64, by simp [helloF], by simp [helloF], by simp [helloF]⟩
theorem reply_fok {a : Ag} (h : AgInv a) {p : Int × Int × Int} (hp : p ∈ a.probes) : FrOk (replyF a p) := by
  have h1 := h.id
  have h2 := h.epoch
  have h3 := h.clock
  obtain ⟨p1, p2, p3, p4⟩ := h.pr p hp
  exact ⟨(⟨by decide, by decide⟩ : in64 4), (⟨by omega, by omega⟩ : in64 a.id), (⟨by omega, by omega⟩ : in64 a.epoch), (⟨by omega, by omega⟩ : in64 p.1), (⟨by omega, by omega⟩ : in64 p.2.1), (⟨by omega, by omega⟩ : in64 p.2.2), (⟨by omega, by omega⟩ : in64 a.clock), z64, z64, z64, by simp [replyF], by simp [replyF], by simp [replyF]⟩
theorem beat_fok {a : Ag} (h : AgInv a) : FrOk (beatF a) := by
  have h1 := h.id
  have h2 := h.epoch
  have h3 := h.clock
  have h4 := h.seq
  have hf : 0 ≤ a.seq - (a.kept.length : Int) := h.first
  exact ⟨(⟨by decide, by decide⟩ : in64 7), (⟨by omega, by omega⟩ : in64 a.id), (⟨by omega, by omega⟩ : in64 a.epoch), z64, z64, z64, z64, (⟨by omega, by omega⟩ : in64 a.seq), (⟨by omega, by omega⟩ : in64 a.clock), z64, by simp [beatF], by simp [beatF], by simp [beatF]⟩
theorem batch_fok {a : Ag} (h : AgInv a) (k : Nat) : FrOk (batchF a k) := by
  have h1 := h.id
  have h2 := h.epoch
  have h4 := h.seq
  have h5 := h.len
  have h6 := h.most
  have hf : 0 ≤ firstA a := h.first
  have hf2 : firstA a = a.seq - (a.kept.length : Int) := rfl
  refine ⟨(⟨by decide, by decide⟩ : in64 5), (⟨by omega, by omega⟩ : in64 a.id), (⟨by omega, by omega⟩ : in64 a.epoch), z64, z64, z64, z64, (⟨by omega, by omega⟩ : in64 (firstA a)), z64, z64, ?_, fun x hx => ?_, by simp [batchF]⟩
  · show (a.kept.take k).length ≤ _
    rw [List.length_take]; omega
  · have := lab_len h (List.mem_of_mem_take hx)
    omega
set_option maxHeartbeats 4000000 in
theorem step_err (a0 : Ag) (r : Int) (h : (observeA a0 r).2 ≠ 0) : Sat Tryz.prog 22 [.ptr 0 0, iA r] (agH a0) (.tup [.d nilV, iA (observeA a0 r).2]) (agH2 (observeA a0 r).1) := by
  have o1 := observe_sat a0 r
  have d1 := ne0 h
  generalize observeA a0 r = A at *
  obtain ⟨a, e⟩ := A
  refine sat_of_vc (T := tiOf Tryz.prog) (E := E0) Tryz.func22 rfl rfl hE0 hm0 rfl ?_
  conv => whnf
  iterate 4
    repeat' (first | exact True.intro | ((first | refine Yb fun _ => ?_ | refine Yc fun _ => ?_ | refine Ya (by kernel_rfl) ?_ | refine Ya (by decide) ?_ | refine Yd (by decide) fun _ => ?_ | refine Ye (by decide) fun _ => ?_ | refine ⟨_, _, o1.at3 0 1 2 rfl rfl rfl rfl rfl rfl, ?_⟩); conv => whnf) | (refine Ya (fun _ => ?_) (fun _ => ?_) <;> conv => whnf))
    all_goals try (refine Or.inl ?_; conv => whnf)
  all_goals try exact (bnl d1 ‹_›).elim
  all_goals refine ⟨[(1, 3), (2, 4)], ?_⟩
  repeat (any_goals (first | exact True.intro | exact rfl | exact (by kernel_rfl) | refine Ya ?_ ?_))
  all_goals conv => whnf
set_option maxHeartbeats 8000000 in
theorem step_hello (a0 : Ag) (r : Int) (h0 : (observeA a0 r).2 = 0) (hi : AgInv (observeA a0 r).1) (he : (observeA a0 r).1.epoch = 0) : Sat Tryz.prog 22 [.ptr 0 0, iA r] (agH a0) (.tup [.own 4, iA 0]) [.cells (agC (observeA a0 r).1 (.own 3) (.own 5)), .dead, .dead, .sl 4 ((observeA a0 r).1.kept.map evR), .sl 1 [[bsD (encodeT (helloF (observeA a0 r).1))]], .sl 3 ((observeA a0 r).1.probes.map prR)] := by
  have o1 := observe_sat a0 r
  rw [h0] at o1
  generalize (observeA a0 r).1 = a at *
  have f1 := frame_sat a 1
  have s1 := sendN_sat (f := helloF a) ⟨rfl, rfl, rfl⟩ (hello_fok hi) (hello_right hi he) (small_len (k := 1) rfl (by decide) rfl)
  have d1 : (a.epoch == 0) = true := by rw [beq_iff_eq]; exact he
  refine sat_of_vc (T := tiOf Tryz.prog) (E := E0) Tryz.func22 rfl rfl hE0 hm0 rfl ?_
  conv => whnf
  iterate 7
    repeat' (first | exact True.intro | ((first | refine Yb fun _ => ?_ | refine Yc fun _ => ?_ | refine Ya (by kernel_rfl) ?_ | refine Ya (by decide) ?_ | refine Yd (by decide) fun _ => ?_ | refine Ye (by decide) fun _ => ?_ | refine ⟨_, _, o1.at3 0 1 2 rfl rfl rfl rfl rfl rfl, ?_⟩ | refine ⟨_, _, f1.at3 0 1 2 rfl rfl rfl rfl rfl rfl, ?_⟩ | refine ⟨_, _, s1.at1 3 rfl rfl rfl, ?_⟩); conv => whnf) | (refine Ya (fun _ => ?_) (fun _ => ?_) <;> conv => whnf))
    all_goals try (refine Or.inl ?_; conv => whnf)
  all_goals try exact (bnl d1 ‹_›).elim
  all_goals refine ⟨[(1, 6), (2, 7), (3, 6), (4, 7), (4, 5)], ?_⟩
  repeat (any_goals (first | exact True.intro | exact rfl | exact (by kernel_rfl) | refine Ya ?_ ?_))
  all_goals conv => whnf
abbrev agN (a : Ag) : List AObj := [.cells (agC a (.own 1) (.d nilV)), .sl 4 (a.kept.map evR)]
theorem frameN_sat (a : Ag) (k : Int) : Sat Tryz.prog 47 [.ptr 0 0, iA k] (agN a) (.d (.agg (nilR ⟨k, a.id, a.epoch, 0, 0, 0, 0, 0, 0, 0, [], ([], []), []⟩))) (agN a) := by
  refine sat_of_vc (T := tiOf Tryz.prog) (E := E0) Tryz.func47 rfl rfl hE0 hm0 rfl ?_
  conv => whnf
  iterate 4
    repeat' (first | exact True.intro | ((first | refine Yb fun _ => ?_ | refine Yc fun _ => ?_ | refine Ya (by kernel_rfl) ?_ | refine Ya (by decide) ?_ | refine Yd (by decide) fun _ => ?_ | refine Ye (by decide) fun _ => ?_); conv => whnf) | (refine Ya (fun _ => ?_) (fun _ => ?_) <;> conv => whnf))
    all_goals try (refine Or.inl ?_; conv => whnf)
  all_goals refine ⟨[], ?_⟩
  repeat (any_goals (first | exact True.intro | exact rfl | exact (by kernel_rfl) | refine Ya ?_ ?_))
  all_goals conv => whnf
section
variable {P : Program} {L : List AObj} {n : Nat} {g : FuncId}
theorem lendOk_ptr {i j s : Nat} {rows : List (List D)} {cs : List AV} {ds : List D} (hi : L[i]? = some (.cells cs)) (hj : L[j]? = some (.sl s rows)) (hx : cs.map (sbs j (.sl s rows)) = ds.map .d) : LendOk L [.ptr i 0] [.fp ds] [i, j] := by
  intro F F1 ρ H w vals En hF hrs hb hv
  have hHi : H i = some (.cells cs) := (hrs i (by simp)).trans hi
  have hHj : H j = some (.sl s rows) := (hrs j (by simp)).trans hj
  obtain ⟨v, rfl, hv'⟩ := hv.one_out
  obtain ⟨b, rfl, e1, ⟨b', t', vs, e2, hB, hra, h1⟩, _⟩ := En.cellsAt hHi rfl hv'
  simp at e2; subst e2
  refine .cons (.fp (hb i (by simp) _ e1 b rfl) (flat_ds hF (fun v hv => own_rd En hHj hF (hb j (by simp)) hv) hx hra h1) fun k hk => ?_) .nil
  rw [hB.cell]
  simp [List.getElem?_eq_getElem hk]
end
abbrev agDN (a : Ag) : List D := [iD a.id, iD a.most, iD a.boot, iD a.epoch, iD a.clock, iD a.seq, .sl 4 (a.kept.map evR), iD a.dropped, nilV]
theorem agFirstF_sat {a : Ag} (h : in64 (firstA a)) : Sat Tryz.prog 19 [.fp (agDN a)] [] (iA (firstA a)) [] := by
  have hl : (a.kept.map evR).length = a.kept.length := List.length_map _
  have hw : IntKind.i64.wrap (a.seq - ((a.kept.map evR).length : Int)) = firstA a := by
    unfold firstA at h ⊢
    rw [hl, wi h.1 h.2]
  refine sat_of_vc (T := tiOf Tryz.prog) (E := E0) Tryz.func19 rfl rfl hE0 hm0 rfl ?_
  conv => whnf
  iterate 3
    repeat' (first | exact True.intro | ((first | refine Yb fun _ => ?_ | refine Yc fun _ => ?_ | refine Ya (by kernel_rfl) ?_ | refine Ya (by decide) ?_ | refine Yd (by decide) fun _ => ?_ | refine Ye (by decide) fun _ => ?_); conv => whnf) | (refine Ya (fun _ => ?_) (fun _ => ?_) <;> conv => whnf))
    all_goals try (refine Or.inl ?_; conv => whnf)
  all_goals refine ⟨[], ?_⟩
  repeat (any_goals (first | exact True.intro | exact rfl | exact (by kernel_rfl) | refine Ya ?_ ?_))
  all_goals conv => whnf
  rw [hw]
theorem agFirstR {a : Ag} {L : List AObj} {i j n : Nat} (h : in64 (firstA a)) (hi : L[i]? = some (.cells (agC a (.own j) (.d nilV)))) (hj : L[j]? = some (.sl 4 (a.kept.map evR))) : CallOK Tryz.prog 19 [.ptr i 0] L n ⟨[i, j], [], []⟩ (iA (firstA a)) :=
  (agFirstF_sat h).lendG (lendOk_ptr hi hj (by simp [sbs])) rfl fun k hk => by
    rcases List.mem_cons.1 hk with rfl | hk
    · exact ⟨_, hi, rfl⟩
    · rw [List.mem_singleton.1 hk]; exact ⟨_, hj, rfl⟩
def mostB (a : Ag) : Nat → Nat
  | 0 => 0
  | k + 1 => if (encodeT (batchF a (k + 1))).length ≤ 65536 then k + 1 else mostB a k
theorem mostB_le (a : Ag) : ∀ k, mostB a k ≤ k
  | 0 => Nat.le_refl _
  | k + 1 => by
    unfold mostB
    split
    · exact Nat.le_refl _
    · exact Nat.le_succ_of_le (mostB_le a k)
theorem mostB_pos (a : Ag) : ∀ k, 1 ≤ k → 1 ≤ mostB a k
  | 1, _ => by
    unfold mostB
    rw [if_pos batch_one]; exact Nat.le_refl _
  | k + 2, _ => by
    unfold mostB
    split
    · omega
    · exact mostB_pos a (k + 1) (by omega)
theorem mostB_small (a : Ag) : ∀ k, 1 ≤ mostB a k → (encodeT (batchF a (mostB a k))).length ≤ 65536
  | 0, h => by cases h
  | k + 1, h => by
    unfold mostB at h ⊢
    split
    · assumption
    · rename_i q
      rw [if_neg q] at h
      exact mostB_small a k h
def repR (a : Ag) (i : Nat) : List (List D) := (a.probes.take i).map fun p => [bsD (encodeT (replyF a p))]
theorem repR_len (a : Ag) (i : Nat) (h : i ≤ a.probes.length) : (repR a i).length = i := by
  unfold repR
  rw [List.length_map, List.length_take]; omega
theorem repR_next {a : Ag} {i : Nat} {p : Int × Int × Int} (hp : a.probes[i]? = some p) : repR a (i + 1) = repR a i ++ [[bsD (encodeT (replyF a p))]] := by
  unfold repR
  rw [List.take_add_one, hp, List.map_append]; rfl
def batT (a : Ag) : List Bt := if a.kept = [] then [] else [encodeT (batchF a (mostB a (min a.kept.length 64)))]
def sentA (a : Ag) : List Bt := if a.epoch = 0 then [encodeT (helloF a)] else a.probes.map (fun p => encodeT (replyF a p)) ++ (batT a ++ [encodeT (beatF a)])
theorem sent_run (a : Ag) (h : a.epoch ≠ 0) : sentA a = a.probes.map (fun p => encodeT (replyF a p)) ++ (batT a ++ [encodeT (beatF a)]) := if_neg h
theorem bat_no {a : Ag} (h : a.kept = []) : batT a = [] := if_pos h
theorem bat_some {a : Ag} (h : a.kept ≠ []) : batT a = [encodeT (batchF a (mostB a (min a.kept.length 64)))] := if_neg h
theorem rep_no {a : Ag} (h : a.probes = []) : repR a a.probes.length = [] := by unfold repR; rw [h]; rfl
theorem rows_run (a : Ag) (h : a.epoch ≠ 0) : (sentA a).map (fun b => [bsD b]) = repR a a.probes.length ++ ((batT a).map (fun b => [bsD b]) ++ [[bsD (encodeT (beatF a))]]) := by
  rw [sent_run a h, List.map_append, List.map_append, List.map_map]
  unfold repR
  rw [List.take_length]
  rfl
theorem mostB_at {a : Ag} {n : Nat} (h0 : 0 < n) (h : (encodeT (batchF a n)).length ≤ 65536) : mostB a n = n := by
  obtain ⟨k, rfl⟩ : ∃ k, n = k + 1 := ⟨n - 1, by omega⟩
  unfold mostB
  rw [if_pos h]
theorem mostB_down {a : Ag} {n : Nat} (h0 : 0 < n) (h : ¬ (encodeT (batchF a n)).length ≤ 65536) : mostB a n = mostB a (n - 1) := by
  obtain ⟨k, rfl⟩ : ∃ k, n = k + 1 := ⟨n - 1, by omega⟩
  conv => lhs; unfold mostB
  rw [if_neg h]
  rfl
abbrev agH5 (a : Ag) (l : List Bt) : List AObj := [.cells (agC a (.own 3) (.own 5)), .dead, .dead, .sl 4 (a.kept.map evR), .sl 1 (l.map fun b => [bsD b]), .sl 3 (a.probes.map prR)]
set_option maxHeartbeats 8000000 in
theorem step_run (a0 : Ag) (r : Int) (h0 : (observeA a0 r).2 = 0) (hi : AgInv (observeA a0 r).1) (he : (observeA a0 r).1.epoch ≠ 0) : Sat Tryz.prog 22 [.ptr 0 0, iA r] (agH a0) (.tup [.own 4, iA 0]) (agH5 { (observeA a0 r).1 with probes := [] } (sentA (observeA a0 r).1)) := by
  have o1 := observe_sat a0 r
  rw [h0] at o1
  generalize (observeA a0 r).1 = a at *
  refine Sat.nilCell (cs := agC a (.own 3) (.d nilV)) (T := [.dead, .dead, .sl 4 (a.kept.map evR), .sl 1 ((sentA a).map fun b => [bsD b])]) 3 ?_ (fun w F ρ hρ vs hv => ras_nil (xs := [iA a.id, iA a.most, iA a.boot, iA a.epoch, iA a.clock, iA a.seq, .own 3, iA a.dropped]) (ys := []) hρ hv)
  have f5 := frameN_sat a 5
  have f7 := frameN_sat a 7
  have hfa := hi.first
  have hsq := hi.seq
  have hfd : firstA a = a.seq - (a.kept.length : Int) := rfl
  have g1 : in64 (firstA a) := ⟨by omega, by omega⟩
  have hkl : (a.kept.map evR).length = a.kept.length := List.length_map _
  obtain ⟨m, hmdef, hmz⟩ : ∃ m : Nat, m = min a.kept.length 64 ∧ (if (64 : Int) < ((a.kept.map evR).length : Int) then (64 : Int) else ((a.kept.map evR).length : Int)) = m := by
    refine ⟨min a.kept.length 64, rfl, ?_⟩
    rw [hkl]
    split <;> omega
  have hbs := small_len (f := beatF a) (k := 7) rfl (by decide) rfl
  have hkz : m = 0 → a.kept = [] := fun h => List.eq_nil_of_length_eq_zero (by omega)
  have hkp : 0 < m → a.kept ≠ [] := fun h q => by rw [q] at hmdef; simp at hmdef; omega
  have hrl : (repR a a.probes.length).length ≤ 1000 := by
    have := hi.pl
    rw [repR_len _ _ (Nat.le_refl _)]; omega
  have f4 := frame_sat a 4
  have d1 : (a.epoch == 0) = false := by rw [beqI, decide_eq_false he]
  have hm : (a.probes.map prR).length = a.probes.length := List.length_map _
  have hpl := hi.pl
  obtain ⟨st, hst0, hst1⟩ : ∃ st : Nat → List (Nat × AV) × List AObj, (st 0 = ([(47, iA 0), (46, iA (a.probes.map prR).length), (45, .own 2), (8, .fn (.func 46) [] [.ptr 3 0]), (7, .ptr 3 0), (0, .ptr 0 0)], agH a ++ [.cells [.d nilV]])) ∧
      (∀ i, 0 < i → st i = ([(47, iA i), (46, iA (a.probes.map prR).length), (45, .own 2), (8, .fn (.func 46) [] [.ptr 3 0]), (7, .ptr 3 0), (0, .ptr 0 0)], agH a ++ [.cells [.own 4], .sl 1 (repR a i)])) :=
    ⟨fun i => if 0 < i then _ else _, if_neg (by decide), fun i h => if_pos h⟩
  refine sat_of_vc (T := tiOf Tryz.prog) (E := E0) Tryz.func22 rfl rfl hE0 hm0 rfl ?_
  conv => whnf
  iterate 6
    repeat' (first | exact True.intro | ((first | refine Yb fun _ => ?_ | refine Yc fun _ => ?_ | refine Ya (by kernel_rfl) ?_ | refine Ya (by decide) ?_ | refine Yd (by decide) fun _ => ?_ | refine Ye (by decide) fun _ => ?_ | refine ⟨_, _, o1.at3 0 1 2 rfl rfl rfl rfl rfl rfl, ?_⟩); conv => whnf) | (refine Ya (fun _ => ?_) (fun _ => ?_) <;> conv => whnf))
    all_goals try (refine Or.inl ?_; conv => whnf)
  all_goals try exact (bnl ‹_› d1).elim
  refine ⟨Nat, fun i => i ≤ a.probes.length, st, fun i => a.probes.length - i, ⟨0, Nat.zero_le _, ?_⟩, ?_⟩
  · rw [hst0]
    all_goals refine ⟨[], ?_⟩
    repeat (any_goals (first | exact True.intro | exact rfl | exact (by kernel_rfl) | refine Ya ?_ ?_))
    all_goals conv => whnf
  intro i hii
  have hii : i ≤ a.probes.length := hii
  by_cases hlt : i < a.probes.length
  · have hx : a.probes[i]? = some a.probes[i] := List.getElem?_eq_getElem hlt
    generalize a.probes[i] = p at hx
    have hpm := List.mem_of_getElem? hx
    have hgx := map_get (f := prR) hx
    have hrr := reply_right hi hpm
    have hff := reply_fok hi hpm
    have hss := small_len (f := replyF a p) (k := 4) rfl (by decide) rfl
    have sN := sendN_sat (f := replyF a p) ⟨rfl, rfl, rfl⟩ hff hrr hss
    have sO := sendO_sat (f := replyF a p) ⟨rfl, rfl, rfl⟩ hff hrr hss (repR a i) (by rw [repR_len _ _ hii]; omega)
    have d2 : decide ((i : Int) < ((a.probes.map prR).length : Nat)) = true := decide_eq_true (by rw [hm]; omega)
    rcases Nat.eq_zero_or_pos i with h00 | h00
    · subst h00
      rw [hst0]
      conv => whnf
      iterate 6
        repeat' (first | exact True.intro | ((first | refine ⟨0, rfl, (by rw [hm]; exact hlt), ?_⟩ | refine ⟨_, hgx, ?_⟩ | refine Yb fun _ => ?_ | refine Yc fun _ => ?_ | refine Ya (by kernel_rfl) ?_ | refine Ya (by decide) ?_ | refine Yd (by decide) fun _ => ?_ | refine Ye (by decide) fun _ => ?_ | refine ⟨_, _, f4.at3 0 1 2 rfl rfl rfl rfl rfl rfl, ?_⟩ | refine ⟨_, _, sN.at1 3 rfl rfl rfl, ?_⟩); conv => whnf) | (refine Ya (fun _ => ?_) (fun _ => ?_) <;> conv => whnf))
        all_goals try (refine Or.inl ?_; conv => whnf)
      all_goals try exact (bnl d2 ‹_›).elim
      refine ⟨1, hlt, show a.probes.length - 1 < a.probes.length - 0 by omega, ?_⟩
      rw [hst1 1 (by decide)]
      all_goals refine ⟨[(4, 6)], ?_⟩
      repeat (any_goals (first | exact True.intro | exact rfl | exact (by kernel_rfl) | refine Ya ?_ ?_))
      all_goals conv => whnf
      exact congrArg (AObj.sl 1) (repR_next hx).symm
    · rw [hst1 i h00]
      conv => whnf
      iterate 6
        repeat' (first | exact True.intro | ((first | refine ⟨i, rfl, (by rw [hm]; exact hlt), ?_⟩ | refine ⟨_, hgx, ?_⟩ | refine Yb fun _ => ?_ | refine Yc fun _ => ?_ | refine Ya (by kernel_rfl) ?_ | refine Ya (by decide) ?_ | refine Yd (by decide) fun _ => ?_ | refine Ye (by decide) fun _ => ?_ | refine ⟨_, _, f4.at3 0 1 2 rfl rfl rfl rfl rfl rfl, ?_⟩ | refine ⟨_, _, sO.at2 3 4 rfl rfl rfl rfl rfl, ?_⟩); conv => whnf) | (refine Ya (fun _ => ?_) (fun _ => ?_) <;> conv => whnf))
        all_goals try (refine Or.inl ?_; conv => whnf)
      all_goals try exact (bnl d2 ‹_›).elim
      refine ⟨i + 1, hlt, show a.probes.length - (i + 1) < a.probes.length - i by omega, ?_⟩
      rw [hst1 (i + 1) (by omega)]
      all_goals refine ⟨[(4, 7)], ?_⟩
      repeat (any_goals (first | exact True.intro | exact rfl | exact (by kernel_rfl) | refine Ya ?_ ?_))
      all_goals conv => whnf
      · exact wk1 (by omega)
      · exact congrArg (AObj.sl 1) (repR_next hx).symm
  · have d2 : decide ((i : Int) < ((a.probes.map prR).length : Nat)) = false := decide_eq_false (by rw [hm]; omega)
    rcases Nat.eq_zero_or_pos i with h00 | h00
    · subst h00
      rw [hst0]
      have hp0 : a.probes = [] := List.eq_nil_of_length_eq_zero (by omega)
      conv => whnf
      iterate 4
        repeat' (first | exact True.intro | ((first | refine Yb fun _ => ?_ | refine Yc fun _ => ?_ | refine Ya (by kernel_rfl) ?_ | refine Ya (by decide) ?_ | refine Yd (by decide) fun _ => ?_ | refine Ye (by decide) fun _ => ?_); conv => whnf) | (refine Ya (fun _ => ?_) (fun _ => ?_) <;> conv => whnf))
        all_goals try (refine Or.inl ?_; conv => whnf)
      all_goals try exact (bnl ‹_› d2).elim
      refine ⟨Nat, fun n => n ≤ m ∧ mostB a m = mostB a n, fun n => ([(13, iA n), (8, .fn (.func 46) [] [.ptr 3 0]), (7, .ptr 3 0), (0, .ptr 0 0)], [.cells (agC a (.own 1) (.d nilV)), .sl 4 (a.kept.map evR), .sl 3 (a.probes.map prR), .cells [.d nilV]]), fun n => n, ⟨m, ⟨Nat.le_refl _, rfl⟩, ?_⟩, ?_⟩
      · all_goals refine ⟨[], ?_⟩
        repeat (any_goals (first | exact True.intro | exact rfl | exact (by kernel_rfl) | refine Ya ?_ ?_))
        all_goals conv => whnf
        all_goals exact congrArg (fun z => iA z) hmz
      rintro n ⟨hn, hI⟩
      have hn : n ≤ m := hn
      have hI : mostB a m = mostB a n := hI
      conv => whnf
      rcases Nat.eq_zero_or_pos n with hn0 | hn0
      · subst hn0
        have hm0 : m = 0 := by
          rcases Nat.eq_zero_or_pos m with q | q
          · exact q
          · have := mostB_pos a m q; rw [hI] at this; exact absurd this (by unfold mostB; decide)
        have d3 : decide (((0 : Nat) : Int) > 0) = false := decide_eq_false (by decide)
        have sX := sendN_sat (f := beatF a) ⟨rfl, rfl, rfl⟩ (beat_fok hi) (beat_right hi) hbs
        iterate 8
          repeat' (first | exact True.intro | ((first | refine Yb fun _ => ?_ | refine Yc fun _ => ?_ | refine Ya (by kernel_rfl) ?_ | refine Ya (by decide) ?_ | refine Yd (by decide) fun _ => ?_ | refine Ye (by decide) fun _ => ?_ | refine ⟨_, _, f7.at2 0 1 rfl rfl rfl rfl rfl, ?_⟩ | refine ⟨_, _, sX.at1 3 rfl rfl rfl, ?_⟩); conv => whnf) | (refine Ya (fun _ => ?_) (fun _ => ?_) <;> conv => whnf))
          all_goals try (refine Or.inl ?_; conv => whnf)
        all_goals try exact (bnl ‹_› d3).elim
        all_goals refine ⟨[(1, 6), (3, 6), (4, 5)], ?_⟩
        repeat (any_goals (first | exact True.intro | exact rfl | exact (by kernel_rfl) | refine Ya ?_ ?_))
        all_goals conv => whnf
        all_goals exact congrArg (AObj.sl 1) (by rw [rows_run a he, bat_no (hkz hm0)]; rw [rep_no hp0]; rfl)
      have d3 : decide ((n : Int) > 0) = true := decide_eq_true (by omega)
      have hnk : n ≤ a.kept.length := by omega
      have hn64 : n ≤ 64 := by omega
      by_cases hL : (encodeT (batchF a n)).length ≤ 65536
      · have hmb : mostB a m = n := by rw [hI]; exact mostB_at hn0 hL
        have sB := sendBN_sat a n hnk (batch_fok hi n) (fun x hx => (hi.ev x hx).2.1) (batch_right hi hn0 hnk hn64) hL
        have sX := sendO_sat (f := beatF a) ⟨rfl, rfl, rfl⟩ (beat_fok hi) (beat_right hi) hbs ([[bsD (encodeT (batchF a n))]]) (by simp)
        iterate 12
          repeat' (first | exact True.intro | ((first | refine Ya pc_one ?_ | refine Yb fun _ => ?_ | refine Yc fun _ => ?_ | refine Ya (by kernel_rfl) ?_ | refine Ya (by decide) ?_ | refine Yd (by decide) fun _ => ?_ | refine Ye (by decide) fun _ => ?_ | refine ⟨_, _, f5.at2 0 1 rfl rfl rfl rfl rfl, ?_⟩ | refine ⟨_, _, agFirstR (i := 0) (j := 1) g1 rfl rfl, ?_⟩ | refine ⟨_, _, pcUpto 4 56 (by kernel_rfl) rfl (show n ≤ (a.kept.map evR).length by rw [hkl]; exact hnk), ?_⟩ | refine ⟨_, _, sB.at2 3 1 rfl rfl rfl rfl rfl, ?_⟩ | refine ⟨_, _, f7.at2 0 1 rfl rfl rfl rfl rfl, ?_⟩ | refine ⟨_, _, sX.at2 3 5 rfl rfl rfl rfl rfl, ?_⟩); conv => whnf) | (refine Ya (fun _ => ?_) (fun _ => ?_) <;> conv => whnf))
          all_goals try (refine Or.inl ?_; conv => whnf)
        all_goals try exact (bnl d3 ‹_›).elim
        all_goals refine ⟨[(1, 8), (3, 8), (4, 7)], ?_⟩
        repeat (any_goals (first | exact True.intro | exact rfl | exact (by kernel_rfl) | refine Ya ?_ ?_))
        all_goals conv => whnf
        all_goals exact congrArg (AObj.sl 1) (by rw [rows_run a he, bat_some (hkp (show 0 < m by omega)), ← hmdef, hmb]; rw [rep_no hp0]; rfl)
      · have sB := sendBNbig_sat a n hnk (batch_fok hi n) (fun x hx => (hi.ev x hx).2.1) (batch_right hi hn0 hnk hn64) (by omega)
        iterate 8
          repeat' (first | exact True.intro | ((first | refine Ya pc_one ?_ | refine Yb fun _ => ?_ | refine Yc fun _ => ?_ | refine Ya (by kernel_rfl) ?_ | refine Ya (by decide) ?_ | refine Yd (by decide) fun _ => ?_ | refine Ye (by decide) fun _ => ?_ | refine ⟨_, _, f5.at2 0 1 rfl rfl rfl rfl rfl, ?_⟩ | refine ⟨_, _, agFirstR (i := 0) (j := 1) g1 rfl rfl, ?_⟩ | refine ⟨_, _, pcUpto 4 56 (by kernel_rfl) rfl (show n ≤ (a.kept.map evR).length by rw [hkl]; exact hnk), ?_⟩ | refine ⟨_, _, sB.at2 3 1 rfl rfl rfl rfl rfl, ?_⟩); conv => whnf) | (refine Ya (fun _ => ?_) (fun _ => ?_) <;> conv => whnf))
          all_goals try (refine Or.inl ?_; conv => whnf)
        all_goals try exact (bnl d3 ‹_›).elim
        refine ⟨n - 1, ⟨by omega, by rw [hI]; exact mostB_down hn0 hL⟩, show n - 1 < n by omega, ?_⟩
        all_goals refine ⟨[], ?_⟩
        repeat (any_goals (first | exact True.intro | exact rfl | exact (by kernel_rfl) | refine Ya ?_ ?_))
        all_goals conv => whnf
        all_goals exact congrArg (fun z => iA z) (by rw [wi (by omega) (by omega)]; omega)
    · obtain rfl : i = a.probes.length := by omega
      rw [hst1 _ h00]
      conv => whnf
      iterate 4
        repeat' (first | exact True.intro | ((first | refine Yb fun _ => ?_ | refine Yc fun _ => ?_ | refine Ya (by kernel_rfl) ?_ | refine Ya (by decide) ?_ | refine Yd (by decide) fun _ => ?_ | refine Ye (by decide) fun _ => ?_); conv => whnf) | (refine Ya (fun _ => ?_) (fun _ => ?_) <;> conv => whnf))
        all_goals try (refine Or.inl ?_; conv => whnf)
      all_goals try exact (bnl ‹_› d2).elim
      refine ⟨Nat, fun n => n ≤ m ∧ mostB a m = mostB a n, fun n => ([(13, iA n), (8, .fn (.func 46) [] [.ptr 3 0]), (7, .ptr 3 0), (0, .ptr 0 0)], [.cells (agC a (.own 1) (.d nilV)), .sl 4 (a.kept.map evR), .sl 3 (a.probes.map prR), .cells [.own 4], .sl 1 (repR a a.probes.length)]), fun n => n, ⟨m, ⟨Nat.le_refl _, rfl⟩, ?_⟩, ?_⟩
      · all_goals refine ⟨[], ?_⟩
        repeat (any_goals (first | exact True.intro | exact rfl | exact (by kernel_rfl) | refine Ya ?_ ?_))
        all_goals conv => whnf
        all_goals exact congrArg (fun z => iA z) hmz
      rintro n ⟨hn, hI⟩
      have hn : n ≤ m := hn
      have hI : mostB a m = mostB a n := hI
      conv => whnf
      rcases Nat.eq_zero_or_pos n with hn0 | hn0
      · subst hn0
        have hm0 : m = 0 := by
          rcases Nat.eq_zero_or_pos m with q | q
          · exact q
          · have := mostB_pos a m q; rw [hI] at this; exact absurd this (by unfold mostB; decide)
        have d3 : decide (((0 : Nat) : Int) > 0) = false := decide_eq_false (by decide)
        have sX := sendO_sat (f := beatF a) ⟨rfl, rfl, rfl⟩ (beat_fok hi) (beat_right hi) hbs (repR a a.probes.length) hrl
        iterate 8
          repeat' (first | exact True.intro | ((first | refine Yb fun _ => ?_ | refine Yc fun _ => ?_ | refine Ya (by kernel_rfl) ?_ | refine Ya (by decide) ?_ | refine Yd (by decide) fun _ => ?_ | refine Ye (by decide) fun _ => ?_ | refine ⟨_, _, f7.at2 0 1 rfl rfl rfl rfl rfl, ?_⟩ | refine ⟨_, _, sX.at2 3 4 rfl rfl rfl rfl rfl, ?_⟩); conv => whnf) | (refine Ya (fun _ => ?_) (fun _ => ?_) <;> conv => whnf))
          all_goals try (refine Or.inl ?_; conv => whnf)
        all_goals try exact (bnl ‹_› d3).elim
        all_goals refine ⟨[(1, 7), (3, 7), (4, 6)], ?_⟩
        repeat (any_goals (first | exact True.intro | exact rfl | exact (by kernel_rfl) | refine Ya ?_ ?_))
        all_goals conv => whnf
        all_goals exact congrArg (AObj.sl 1) (by rw [rows_run a he, bat_no (hkz hm0)]; rfl)
      have d3 : decide ((n : Int) > 0) = true := decide_eq_true (by omega)
      have hnk : n ≤ a.kept.length := by omega
      have hn64 : n ≤ 64 := by omega
      by_cases hL : (encodeT (batchF a n)).length ≤ 65536
      · have hmb : mostB a m = n := by rw [hI]; exact mostB_at hn0 hL
        have sB := sendBO_sat a n hnk (batch_fok hi n) (fun x hx => (hi.ev x hx).2.1) (batch_right hi hn0 hnk hn64) hL (repR a a.probes.length) (by rw [repR_len _ _ (Nat.le_refl _)]; omega)
        have sX := sendO_sat (f := beatF a) ⟨rfl, rfl, rfl⟩ (beat_fok hi) (beat_right hi) hbs (repR a a.probes.length ++ [[bsD (encodeT (batchF a n))]]) (by rw [List.length_append, repR_len _ _ (Nat.le_refl _)]; simp; omega)
        iterate 12
          repeat' (first | exact True.intro | ((first | refine Ya pc_one ?_ | refine Yb fun _ => ?_ | refine Yc fun _ => ?_ | refine Ya (by kernel_rfl) ?_ | refine Ya (by decide) ?_ | refine Yd (by decide) fun _ => ?_ | refine Ye (by decide) fun _ => ?_ | refine ⟨_, _, f5.at2 0 1 rfl rfl rfl rfl rfl, ?_⟩ | refine ⟨_, _, agFirstR (i := 0) (j := 1) g1 rfl rfl, ?_⟩ | refine ⟨_, _, pcUpto 4 56 (by kernel_rfl) rfl (show n ≤ (a.kept.map evR).length by rw [hkl]; exact hnk), ?_⟩ | refine ⟨_, _, sB.at3 3 4 1 rfl rfl rfl rfl rfl rfl, ?_⟩ | refine ⟨_, _, f7.at2 0 1 rfl rfl rfl rfl rfl, ?_⟩ | refine ⟨_, _, sX.at2 3 6 rfl rfl rfl rfl rfl, ?_⟩); conv => whnf) | (refine Ya (fun _ => ?_) (fun _ => ?_) <;> conv => whnf))
          all_goals try (refine Or.inl ?_; conv => whnf)
        all_goals try exact (bnl d3 ‹_›).elim
        all_goals refine ⟨[(1, 9), (3, 9), (4, 8)], ?_⟩
        repeat (any_goals (first | exact True.intro | exact rfl | exact (by kernel_rfl) | refine Ya ?_ ?_))
        all_goals conv => whnf
        all_goals exact congrArg (AObj.sl 1) (by rw [rows_run a he, bat_some (hkp (show 0 < m by omega)), ← hmdef, hmb]; rw [List.append_assoc]; rfl)
      · have sB := sendBObig_sat a n hnk (batch_fok hi n) (fun x hx => (hi.ev x hx).2.1) (batch_right hi hn0 hnk hn64) (by omega) (repR a a.probes.length)
        iterate 8
          repeat' (first | exact True.intro | ((first | refine Ya pc_one ?_ | refine Yb fun _ => ?_ | refine Yc fun _ => ?_ | refine Ya (by kernel_rfl) ?_ | refine Ya (by decide) ?_ | refine Yd (by decide) fun _ => ?_ | refine Ye (by decide) fun _ => ?_ | refine ⟨_, _, f5.at2 0 1 rfl rfl rfl rfl rfl, ?_⟩ | refine ⟨_, _, agFirstR (i := 0) (j := 1) g1 rfl rfl, ?_⟩ | refine ⟨_, _, pcUpto 4 56 (by kernel_rfl) rfl (show n ≤ (a.kept.map evR).length by rw [hkl]; exact hnk), ?_⟩ | refine ⟨_, _, sB.at3 3 4 1 rfl rfl rfl rfl rfl rfl, ?_⟩); conv => whnf) | (refine Ya (fun _ => ?_) (fun _ => ?_) <;> conv => whnf))
          all_goals try (refine Or.inl ?_; conv => whnf)
        all_goals try exact (bnl d3 ‹_›).elim
        refine ⟨n - 1, ⟨by omega, by rw [hI]; exact mostB_down hn0 hL⟩, show n - 1 < n by omega, ?_⟩
        all_goals refine ⟨[], ?_⟩
        repeat (any_goals (first | exact True.intro | exact rfl | exact (by kernel_rfl) | refine Ya ?_ ?_))
        all_goals conv => whnf
        all_goals exact congrArg (fun z => iA z) (by rw [wi (by omega) (by omega)]; omega)
def stepA (a0 : Ag) (r : Int) : Ag × List Bt × Nat :=
  if (observeA a0 r).2 ≠ 0 then ((observeA a0 r).1, [], (observeA a0 r).2)
  else if (observeA a0 r).1.epoch = 0 then ((observeA a0 r).1, sentA (observeA a0 r).1, 0)
  else ({ (observeA a0 r).1 with probes := [] }, sentA (observeA a0 r).1, 0)
theorem stepA_bad {a0 : Ag} {r : Int} (h : (observeA a0 r).2 ≠ 0) : stepA a0 r = ((observeA a0 r).1, [], (observeA a0 r).2) := if_pos h
theorem step_no (a0 : Ag) (r : Int) (h : (observeA a0 r).2 ≠ 0) : Sat Tryz.prog 22 [.ptr 0 0, iA r] (agH a0) (.tup [.d nilV, iA (observeA a0 r).2]) (agH2 (stepA a0 r).1) := by
  rw [stepA_bad h]
  exact step_err a0 r h
theorem step_yes (a0 : Ag) (r : Int) (hi : AgInv a0) (h : (observeA a0 r).2 = 0) : Sat Tryz.prog 22 [.ptr 0 0, iA r] (agH a0) (.tup [.own 4, iA 0]) (agH5 (stepA a0 r).1 (sentA (observeA a0 r).1)) := by
  have hi2 := observe_inv hi r
  by_cases he : (observeA a0 r).1.epoch = 0
  · have e : stepA a0 r = ((observeA a0 r).1, sentA (observeA a0 r).1, 0) := by unfold stepA; rw [if_neg (fun q => q h), if_pos he]
    rw [e]
    have := step_hello a0 r h hi2 he
    have e2 : sentA (observeA a0 r).1 = [encodeT (helloF (observeA a0 r).1)] := if_pos he
    rw [e2]
    exact this
  · have e : stepA a0 r = ({ (observeA a0 r).1 with probes := [] }, sentA (observeA a0 r).1, 0) := by unfold stepA; rw [if_neg (fun q => q h), if_neg he]
    rw [e]
    exact step_run a0 r h hi2 he
theorem step_inv {a : Ag} (h : AgInv a) (r : Int) : AgInv (stepA a r).1 := by
  have ho := observe_inv h r
  unfold stepA
  split
  · exact ho
  split
  · exact ho
  · exact ⟨ho.id, ho.most, ho.boot, ho.epoch, ho.clock, ho.seq, ho.first, ho.len, ho.ev, ho.rise, Nat.zero_le _, fun p hp => by cases hp⟩
structure Cl where
  what : Int
  boot : Int
  read : Int
  val : Int
  sr : Ser
  bs : Bt
def clR (c : Cl) : List D := [iD c.what, iD c.boot, iD c.read, iD c.val, tD c.sr.1, .sl 2 (c.sr.2.map labR), bsD c.bs]
def doA (a : Ag) (c : Cl) : Ag := if c.what = 0 then (startA a c.boot).1 else if c.what = 1 then (measureA a c.read c.val c.sr).1 else if c.what = 2 then (takeA a c.read c.bs).1 else if c.what = 3 then (stepA a c.read).1 else a
theorem do_inv {a : Ag} (h : AgInv a) (c : Cl) (hv : in64 c.val) : AgInv (doA a c) := by
  unfold doA
  split
  · exact start_inv h _
  split
  · exact measure_inv h _ _ _ hv
  split
  · exact take_inv h _ _
  split
  · exact step_inv h _
  · exact h
def clOk (c : Cl) : Prop := in64 c.val ∧ c.bs.length ≤ 3000 ∧ c.sr.2.length ≤ 100
abbrev Ask := Int × Int × Int
def pcell (l : Ask) : List Value := [.int .i64 l.1, .int .i64 l.2.1, .int .i64 l.2.2]
def pcells (l : List Ask) : List Value := (l.map pcell).flatten
theorem prR_flat (l : Ask) : FlatVs (prR l) (pcell l) := by repeat constructor
theorem pcells_one (l : List Ask) : ∀ u ∈ pcells l, u.oneCell' = true := by
  intro u hu
  unfold pcells at hu
  rw [List.mem_flatten] at hu
  obtain ⟨c, hc, hu⟩ := hu
  obtain ⟨s, _, rfl⟩ := List.mem_map.1 hc
  simp only [pcell, List.mem_cons, List.not_mem_nil, or_false] at hu
  rcases hu with rfl | rfl | rfl <;> rfl
set_option maxRecDepth 100000 in
theorem infoPr : (Tryz.prog.info? 93).map (fun i => (i.zero, i.size, i.bytes)) = some (some (.agg #[.int .i64 0, .int .i64 0, .int .i64 0]), 3, 24) := by kernel_rfl
set_option maxHeartbeats 1000000 in
set_option maxRecDepth 100000 in
theorem cloneP_any (A : Option Addr) (n c : Nat) (xs : List Ask) (w : World) (hr : Rd w w.heap.size 3 A n (pcells xs)) (hn : n ≤ 1000) :
    Calls Tryz.prog 43 #[.slice A n c] w fun e w' => ∃ v, e = .returned v ∧ Ow w' w.heap.size 93 3 v n (pcells xs) ∧ Below w.heap.size w w' := by
  obtain ⟨i0, hi0, hz0, hz1, hz2⟩ := info_parts infoPr
  cases A with
  | none =>
    have h0 : n = 0 := by
      rcases Nat.eq_zero_or_pos n with h | h
      · exact h
      · obtain ⟨b, off, h, _⟩ := hr.at_ h
        cases h
    subst h0
    have hx : pcells xs = [] := hr.nil'
    have hq := Lib.run_eql_slice_nil (P := Tryz.prog) (w := w) 75
    go_enter Tryz.func43, Tryz.ntmps43
    go_wp2_with fail
    go_ret
    exact ⟨_, rfl, by rw [hx]; exact Ow.nil _ _ _ _, Below.refl _ _⟩
  | some a =>
    have hq := Lib.run_eql_slice_nil (P := Tryz.prog) (w := w) 75
    go_enter Tryz.func43, Tryz.ntmps43
    go_wp2_with (at_builtin; refine wpList_append_ow _ rfl (.tmp 5) (.tmp 6) _ rfl w.heap.size 93 i0 _ 3 24 Tryz.underlying75 hi0 hz0 hz1 hz2 rfl (by omega) (.slice (some ⟨w.heap.size, 0, none⟩) 0 0) 0 [] rfl (Ow.lit w #[] 0 (Nat.le_refl _) (by simp [maxLen]) rfl) w.heap.size (some a) n c (pcells xs) rfl (hr.alloc (Nat.le_refl _) _) (pcells_one xs) (by simp only [maxLen]; omega) (by omega) (by simp) ?_; intro v1 w1 hown1 hg1 hat1 hnn1)
    go_ret
    refine ⟨_, rfl, by simpa using hown1, ?_⟩
    exact (((Below.refl _ _).alloc (Nat.le_refl _) _).grown hg1 (by simp) (by simp [Value.ownBlock]))
set_option maxHeartbeats 1000000 in
theorem cloneP0_any (A : Option Addr) (c : Nat) (w : World) :
    Calls Tryz.prog 43 #[.slice A 0 c] w fun e w' => ∃ v, e = .returned v ∧ Ow w' w.heap.size 93 3 v 0 [] ∧ Below w.heap.size w w' ∧ ∀ k, blkOf v = some k → k < w'.heap.size := by
  obtain ⟨i0, hi0, hz0, hz1, hz2⟩ := info_parts infoPr
  cases A with
  | none =>
    have hq := Lib.run_eql_slice_nil (P := Tryz.prog) (w := w) 75
    go_enter Tryz.func43, Tryz.ntmps43
    go_wp2_with fail
    go_ret
    exact ⟨_, rfl, Ow.nil _ _ _ _, Below.refl _ _, fun k hk => by cases hk⟩
  | some a =>
    have hq := Lib.run_eql_slice_nil (P := Tryz.prog) (w := w) 75
    have hlit := hide <| Ow.lit w #[] 0 (lo := w.heap.size) (size := 3) (e := 93) (Nat.le_refl _) (by simp [maxLen]) rfl
    have hap := hide <| fun w1 ty hown => run_append_zero (P := Tryz.prog) (w := w1) (ty := ty) (t := 75) (A := some a) (c := c) (lo := w.heap.size) (size := 3) (ee := 93) (v := .slice (some ⟨w.heap.size, 0, none⟩) 0 0) (m' := 0) (xs := []) Tryz.underlying75 hi0 hown
    go_enter Tryz.func43, Tryz.ntmps43
    go_wp2_with (at_builtin; refine wpList_exec rfl _ (exec_append _ _ _ rfl _ _ rfl rfl (hap.out _ _ hlit.out)) ?_)
    go_ret
    refine ⟨_, rfl, hlit.out, (Below.refl _ _).alloc (Nat.le_refl _) _, fun k hk => ?_⟩
    injection hk with hk
    subst hk
    show w.heap.size < (w.heap.push _).size
    rw [Array.size_push]; exact Nat.lt_succ_self _
theorem cloneP_sat (l : List Ask) (hn : l.length ≤ 1000) : Sat Tryz.prog 43 [.d (.sl 3 (l.map prR))] [] (.own 0) [.sl 3 (l.map prR)] := by
  intro F ρ w vals En hv
  obtain ⟨v, rfl, hv'⟩ := hv.one_out
  cases hv' with | d hv =>
    obtain ⟨A, c, rfl, h1, h2, hr⟩ := hv.sl_rd En.fb (flat_map prR_flat l)
    rw [List.length_map] at hr ⊢
    have main : Calls Tryz.prog 43 #[.slice A l.length c] w fun e w' => ∃ v, e = .returned v ∧ Ow w' w.heap.size 93 3 v l.length (pcells l) ∧ Below w.heap.size w w' ∧ ∀ k, blkOf v = some k → k < w'.heap.size := by
      rcases Nat.eq_zero_or_pos l.length with h0 | h0
      · have : l = [] := List.eq_nil_of_length_eq_zero h0
        subst this
        exact cloneP0_any A c w
      · refine (cloneP_any A _ c l w hr hn).mono ?_
        rintro e w' ⟨v, rfl, how, hb⟩
        refine ⟨v, rfl, how, hb, fun k hk => ?_⟩
        obtain ⟨g, off, cap, rfl, _, hg, _⟩ := how.open_ h0
        injection hk with hk
        subst hk
        exact hg
    refine main.mono ?_
    rintro e w' ⟨v, rfl, how, hb, hlt⟩
    have hG : w.grownBy w' none := ⟨hb.os, hb.tape, hb.output, hb.size, fun b h _ => hb.block b h⟩
    have hnone : hp ([] : List AObj) 0 = none := rfl
    obtain ⟨A', c', he, g1, g2, hrd⟩ := how.form
    subst he
    have how0 : Ow w' 0 0 3 (.slice A' l.length c') l.length (pcells l) := ⟨how.1, by
      rcases how.2 with h | ⟨a, h, _, h'⟩ | ⟨g, off, cap, h, _, h'⟩
      · exact .inl h
      · exact .inr (.inl ⟨a, h, Nat.zero_le _, h'⟩)
      · exact .inr (.inr ⟨g, off, cap, h, Nat.zero_le _, h'⟩)⟩
    obtain ⟨S, K, E⟩ := En.new (n := 0) (o' := .sl 3 (l.map prR)) (h := .slice A' l.length c') hnone hG (fun b hb' => ⟨how.lt b (by rw [← blk_own rfl]; exact hb'), hlt b hb'⟩)
      ⟨_, by rw [List.length_map]; exact how0, (flat_map prR_flat l).rds, fun r hr => by obtain ⟨x, _, rfl⟩ := List.mem_map.1 hr; rfl⟩
    have e : updF (hp []) 0 (some (.sl 3 (l.map prR))) = hp [.sl 3 (l.map prR)] := by
      funext i
      match i with
      | 0 => rfl
      | i + 1 => rfl
    rw [e] at S E
    exact ⟨_, rfl, F, _, S, K, E, .own (updF_same _ _ _)⟩
set_option maxHeartbeats 4000000 in
theorem agClone_sat (a : Ag) (hk : a.kept.length ≤ 100000) (hl : ∀ x ∈ a.kept, x.2.2.2.length ≤ 1000) (hp : a.probes.length ≤ 1000) : Sat Tryz.prog 14 [.ptr 0 0] (agH a) (.ptr 3 0) (agH a ++ [.cells (agC a (.own 4) (.own 5)), .sl 4 (a.kept.map evR), .sl 3 (a.probes.map prR)]) := by
  have k1 := kept_sat a hk hl
  have c1 := cloneP_sat a.probes hp
  have hf : FlatVs (a.probes.map prR).flatten (pcells a.probes) := flat_map prR_flat a.probes
  refine sat_of_vc (T := tiOf Tryz.prog) (E := E0) Tryz.func14 rfl rfl hE0 hm0 rfl ?_
  conv => whnf
  iterate 6
    repeat' (first | exact True.intro | ((first | refine Yb fun _ => ?_ | refine Yc fun _ => ?_ | refine Ya (by kernel_rfl) ?_ | refine Ya (by decide) ?_ | refine Yd (by decide) fun _ => ?_ | refine Ye (by decide) fun _ => ?_ | refine ⟨_, _, k1.at3 0 1 2 rfl rfl rfl rfl rfl rfl, ?_⟩ | refine ⟨_, _, lendON c1 rfl hf, ?_⟩); conv => whnf) | (refine Ya (fun _ => ?_) (fun _ => ?_) <;> conv => whnf))
    all_goals try (refine Or.inl ?_; conv => whnf)
  all_goals refine ⟨[], ?_⟩
  repeat (any_goals (first | exact True.intro | exact rfl | exact (by kernel_rfl) | refine Ya ?_ ?_))
  all_goals conv => whnf
end Go.Proofs.YtfbfpnfgabamfaaGreat
namespace Go.Proofs.YtfbfpnfgabamfaaGreat
set_option linter.unusedSimpArgs false
set_option linter.unusedVariables false
open Go.RowKit
theorem Sat.at4' {P : Program} {g : FuncId} {args : List AV} {o o' p p' q q' s s' : AObj} {N L : List AObj} {n : Nat} {r : AV} (h : Sat P g args [o, p, q, s] r (o' :: p' :: q' :: s' :: N)) (a b c d : Nat) (hab : decide ([a, b, c, d].Nodup) = true) (hlive : (o.live && p.live && q.live && s.live) = true) (hids : (AV.lts 4 args && AObj.lts 4 [o, p, q, s]) = true)
    (ha : L[a]? = some (o.rn (sub [a, b, c, d] n))) (hb : L[b]? = some (p.rn (sub [a, b, c, d] n))) (hc : L[c]? = some (q.rn (sub [a, b, c, d] n))) (hd : L[d]? = some (s.rn (sub [a, b, c, d] n))) :
    CallOK P g (AV.rns (sub [a, b, c, d] n) args) L n ⟨[a, b, c, d], [(a, o'.rn (sub [a, b, c, d] n)), (b, p'.rn (sub [a, b, c, d] n)), (c, q'.rn (sub [a, b, c, d] n)), (d, s'.rn (sub [a, b, c, d] n))], AObj.rns (sub [a, b, c, d] n) N⟩ (r.rn (sub [a, b, c, d] n)) := by
  simp only [Bool.and_eq_true] at hlive
  exact h.at_ [a, b, c, d] L n rfl (of_decide_eq_true hab) rfl (by simp [AObj.lives, hlive]) hids fun j hj => by
    match j, hj with
    | 0, _ => exact ha
    | 1, _ => exact hb
    | 2, _ => exact hc
    | 3, _ => exact hd
section
variable {P : Program} {F : Nat → Prop} {ρ : Nat → Option Value} {w : World}
end
end Go.Proofs.YtfbfpnfgabamfaaGreat
