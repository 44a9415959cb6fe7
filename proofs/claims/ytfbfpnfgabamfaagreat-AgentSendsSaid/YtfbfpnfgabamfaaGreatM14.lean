/- Parts FrR, FrT, FrU, AgA, Fz, FrV, AgB, AgC, Pc, AgD, AgE of the proof, put together. -/
import Derived.Test.YtfbfpnfgabamfaaGreatM13
namespace Go.Proofs.YtfbfpnfgabamfaaGreat
set_option linter.unusedSimpArgs false
open Go.RowKit
set_option maxRecDepth 100000
set_option linter.unusedVariables false
theorem Sat.weakR {P : Program} {g : FuncId} {args : List AV} {H H' : List AObj} {xs ys : List D} {r : AV} (h : Sat P g args H (.tup [.d (.agg xs), r]) H') (hn : nilLe xs ys) : Sat P g args H (.tup [.d (.agg ys), r]) H' := by
  intro F ρ w vals En hv
  refine (h F ρ w vals En hv).mono ?_
  rintro e w' ⟨v, rfl, F', ρ', S, K, E, R⟩
  cases R with | tup R =>
  cases R with | cons h1 h2 =>
  cases h1 with | d h1 => exact ⟨_, rfl, F', ρ', S, K, E, .tup (.cons (.d (h1.nilLe hn)) h2)⟩
theorem finP_cases (f : Fr) (s : Rs) : finP f s = (f, 0) ∨ ∃ e, e ≠ 0 ∧ finP f s = (frO, e) := by
  unfold finP
  split
  · rename_i h; exact .inr ⟨_, h, rfl⟩
  · split
    · exact .inl rfl
    · exact .inr ⟨10, by decide, rfl⟩
def shapeF (k : Nat) (f : Fr) : Prop := (k ≠ 5 → f.ev = []) ∧ (k ≠ 8 → f.sr = ([], []) ∧ f.d = [])
theorem tailP_cases (k : Nat) (s s1 : Rs) : (∃ f, tailP k s s1 = (f, 0) ∧ shapeF k f) ∨ ∃ e, e ≠ 0 ∧ tailP k s s1 = (frO, e) := by
  unfold tailP
  split
  · cases h : eventsS s1 with
    | mk r s9 =>
      cases r with
      | error e => exact .inr ⟨e, eventsS_err h, rfl⟩
      | ok l => exact (finP_cases (frS 5 3 s l ([], []) []) s9).elim (fun h => .inl ⟨_, h, fun h => absurd rfl h, fun _ => ⟨rfl, rfl⟩⟩) .inr
  · split
    · rename_i h; exact .inr ⟨_, h, rfl⟩
    · split
      · rename_i h; exact .inr ⟨_, h, rfl⟩
      · exact (finP_cases _ _).elim (fun h => .inl ⟨_, h, fun _ => rfl, fun h => absurd rfl h⟩) .inr
  · exact (finP_cases _ _).elim (fun h => .inl ⟨_, h, fun _ => rfl, fun _ => ⟨rfl, rfl⟩⟩) .inr
theorem parseK_cases (k : Nat) (s : Rs) : (∃ f, parseK k s = (f, 0) ∧ shapeF k f) ∨ ∃ e, e ≠ 0 ∧ parseK k s = (frO, e) := by
  unfold parseK
  split
  · rename_i h; exact .inr ⟨_, h, rfl⟩
  · exact tailP_cases _ _ _
theorem nil_frO : nilLe (nilR frO) (frR frO) := by
  repeat' (first | exact trivial | refine And.intro ?_ ?_ | exact .inl rfl | exact .inr ⟨rfl, _, rfl⟩)
theorem shR_le (k : Nat) (s : Rs) : nilLe (shR k (parseK k s)) (frR (parseK k s).1) := by
  rcases parseK_cases k s with ⟨f, h, h5, h8⟩ | ⟨e, he, h⟩
  · rw [h]
    obtain ⟨kk, a, e, b, c, g, s, n, t, w, ev, sr, d⟩ := f
    unfold shR
    rw [if_neg (by simp)]
    split
    · obtain ⟨rfl, rfl⟩ := h8 (by decide)
      repeat' (first | exact trivial | refine And.intro ?_ ?_ | exact .inl rfl | exact .inr ⟨rfl, _, rfl⟩)
    · have h5 := h5 (by decide)
      simp only at h5
      subst h5
      repeat' (first | exact trivial | refine And.intro ?_ ?_ | exact .inl rfl | exact .inr ⟨rfl, _, rfl⟩)
    · rename_i n5 n8
      have h5 := h5 n5
      simp only at h5
      subst h5
      obtain ⟨rfl, rfl⟩ := h8 n8
      repeat' (first | exact trivial | refine And.intro ?_ ?_ | exact .inl rfl | exact .inr ⟨rfl, _, rfl⟩)
  · rw [h]
    unfold shR
    rw [if_pos he]
    exact nil_frO
theorem parse_sat (l : Bt) (hl : l.length ≤ 65536) : Sat Tryz.prog 49 [.d (bsD l)] [] (.tup [.d (frD (parseF l).1), iA (parseF l).2]) [] := by
  unfold parseF
  by_cases h0 : (uintS (l, 0)).2.2 = 0
  case neg =>
    rw [if_pos h0]
    exact (parse_kerr l hl h0).weakR nil_frO
  rw [if_neg (fun h => h h0)]
  by_cases h1 : (uintS (l, 0)).1 < 1 ∨ 8 < (uintS (l, 0)).1
  · rw [if_pos h1]
    exact (parse_kbad l hl h0 h1).weakR nil_frO
  · rw [if_neg h1]
    obtain ⟨k, s, hu⟩ : ∃ k s, uintS (l, 0) = (k, s) := ⟨_, _, rfl⟩
    rw [hu] at h0 h1 ⊢
    simp only at h0 h1
    have hk : k = 1 ∨ k = 2 ∨ k = 3 ∨ k = 4 ∨ k = 5 ∨ k = 6 ∨ k = 7 ∨ k = 8 := by omega
    refine Sat.weakR (xs := shR k (parseK k s)) ?_ (shR_le k s)
    rcases hk with rfl | rfl | rfl | rfl | rfl | rfl | rfl | rfl
    · exact parse_1 l hl s hu h0
    · exact parse_2 l hl s hu h0
    · exact parse_3 l hl s hu h0
    · exact parse_4 l hl s hu h0
    · exact parse_5 l hl s hu h0
    · exact parse_6 l hl s hu h0
    · exact parse_7 l hl s hu h0
    · exact parse_8 l hl s hu h0
def decodeF (l : Bt) : Fr × Nat := if 65536 < l.length then (frO, 17) else if openErr l ≠ 0 then (frO, (openErr l).toNat) else parseF (openBody l)
theorem openErr_nn (l : Bt) : 0 ≤ openErr l := by
  unfold openErr
  split
  · decide
  · split <;> decide
theorem openBody_len (l : Bt) : (openBody l).length ≤ l.length := by
  unfold openBody
  split
  · rw [List.length_take]; omega
  · exact Nat.zero_le _
theorem decode_long (l : Bt) (hl : 65536 < l.length) : Sat Tryz.prog 24 [.d (bsD l)] [] (.tup [.d (.agg (nilR frO)), iA 17]) [] := by
  have d1 : decide (((l.map bR).length : Int) > 65536) = true := decide_eq_true (by rw [List.length_map]; omega)
  refine sat_of_vc (T := tiOf Tryz.prog) (E := E0) Tryz.func24 rfl rfl hE0 hm0 rfl ?_
  conv => whnf
  iterate 5
    repeat' (first | exact True.intro | ((first | refine Yb fun _ => ?_ | refine Yc fun _ => ?_ | refine Ya (by kernel_rfl) ?_ | refine Ya (by decide) ?_ | refine Yd (by decide) fun _ => ?_ | refine Ye (by decide) fun _ => ?_); conv => whnf) | (refine Ya (fun _ => ?_) (fun _ => ?_) <;> conv => whnf))
    all_goals try (refine Or.inl ?_; conv => whnf)
  all_goals try exact (bnl d1 ‹_›).elim
  all_goals refine ⟨[], ?_⟩
  repeat (any_goals (first | exact True.intro | exact rfl | exact (by kernel_rfl) | refine Ya ?_ ?_))
  all_goals conv => whnf
theorem decode_shut (l : Bt) (hl : l.length ≤ 65536) (h : openErr l ≠ 0) : Sat Tryz.prog 24 [.d (bsD l)] [] (.tup [.d (.agg (nilR frO)), iA (openErr l)]) [] := by
  have d1 : decide (((l.map bR).length : Int) > 65536) = false := decide_eq_false (by rw [List.length_map]; omega)
  have d2 : (openErr l != 0) = true := by rw [bne_iff_ne]; exact h
  have o1 := open_sat l (by omega)
  refine sat_of_vc (T := tiOf Tryz.prog) (E := E0) Tryz.func24 rfl rfl hE0 hm0 rfl ?_
  conv => whnf
  iterate 5
    repeat' (first | exact True.intro | ((first | refine Yb fun _ => ?_ | refine Yc fun _ => ?_ | refine Ya (by kernel_rfl) ?_ | refine Ya (by decide) ?_ | refine Yd (by decide) fun _ => ?_ | refine Ye (by decide) fun _ => ?_ | refine ⟨_, _, o1.pu rfl rfl, ?_⟩); conv => whnf) | (refine Ya (fun _ => ?_) (fun _ => ?_) <;> conv => whnf))
    all_goals try (refine Or.inl ?_; conv => whnf)
  all_goals try exact (bnl ‹_› d1).elim
  all_goals try exact (bnl d2 ‹_›).elim
  all_goals refine ⟨[], ?_⟩
  repeat (any_goals (first | exact True.intro | exact rfl | exact (by kernel_rfl) | refine Ya ?_ ?_))
  all_goals conv => whnf
theorem decode_go (l : Bt) (hl : l.length ≤ 65536) (h : openErr l = 0) : Sat Tryz.prog 24 [.d (bsD l)] [] (.tup [.d (frD (parseF (openBody l)).1), iA (parseF (openBody l)).2]) [] := by
  have d1 : decide (((l.map bR).length : Int) > 65536) = false := decide_eq_false (by rw [List.length_map]; omega)
  have o1 := open_sat l (by omega)
  rw [h] at o1
  have p1 := parse_sat (openBody l) (Nat.le_trans (openBody_len l) hl)
  refine sat_of_vc (T := tiOf Tryz.prog) (E := E0) Tryz.func24 rfl rfl hE0 hm0 rfl ?_
  conv => whnf
  iterate 5
    repeat' (first | exact True.intro | ((first | refine Yb fun _ => ?_ | refine Yc fun _ => ?_ | refine Ya (by kernel_rfl) ?_ | refine Ya (by decide) ?_ | refine Yd (by decide) fun _ => ?_ | refine Ye (by decide) fun _ => ?_ | refine ⟨_, _, o1.pu rfl rfl, ?_⟩ | refine ⟨_, _, p1.pu rfl rfl, ?_⟩); conv => whnf) | (refine Ya (fun _ => ?_) (fun _ => ?_) <;> conv => whnf))
    all_goals try (refine Or.inl ?_; conv => whnf)
  all_goals try exact (bnl ‹_› d1).elim
  all_goals refine ⟨[], ?_⟩
  repeat (any_goals (first | exact True.intro | exact rfl | exact (by kernel_rfl) | refine Ya ?_ ?_))
  all_goals conv => whnf
theorem decode_sat (l : Bt) : Sat Tryz.prog 24 [.d (bsD l)] [] (.tup [.d (frD (decodeF l).1), iA (decodeF l).2]) [] := by
  unfold decodeF
  by_cases h1 : 65536 < l.length
  · rw [if_pos h1]
    exact (decode_long l h1).weakR nil_frO
  · rw [if_neg h1]
    by_cases h2 : openErr l = 0
    · rw [if_neg (fun h => h h2)]
      exact decode_go l (by omega) h2
    · rw [if_pos h2]
      have := (decode_shut l (by omega) h2).weakR nil_frO
      show Sat _ _ _ _ (.tup [.d (frD frO), iA (((openErr l).toNat : Nat) : Int)]) _
      rw [Int.toNat_of_nonneg (openErr_nn l)]
      exact this
theorem dec_back {l : Bt} {v s : Nat} (h : dec l = (v, s, 0)) : l = enc v ++ l.drop s := by
  obtain ⟨u, h1, h2, h3, h4, h5, h6, h7⟩ := enc_of_dec l 0 0 v s (by omega) h
  have hv : v = u := by simpa using h1
  subst hv
  have : enc v = l.take s := h5
  rw [this, List.take_append_drop]
theorem uintS_zero {s : Rs} (h : (uintS s).2.2 = 0) : s.2 = 0 ∧ s.1 = enc (uintS s).1 ++ (uintS s).2.1 := by
  unfold uintS at h ⊢
  by_cases h1 : s.2 = 0
  · rw [if_neg (fun q => q h1)] at h ⊢
    by_cases h2 : (dec s.1).2.2 = 0
    · rw [if_neg (fun q => q h2)]
      exact ⟨h1, dec_back (s := (dec s.1).2.1) (v := (dec s.1).1) (by rw [← h2])⟩
    · rw [if_pos h2] at h
      exact absurd h h2
  · rw [if_pos h1] at h
    exact absurd h h1
theorem intS_zero {s : Rs} (h : (intS s).2.2 = 0) : s.2 = 0 ∧ s.1 = enc (turnN (intS s).1) ++ (intS s).2.1 := by
  have := uintS_zero h
  unfold intS
  rw [turn_unturn]
  exact this
theorem cnt_back {l : Bt} {m : Int} (h : (cnt l m).2.2 = 0) : l = enc (cnt l m).1 ++ l.drop (cnt l m).2.1 := by
  unfold cnt at h ⊢
  by_cases h1 : (dec l).2.2 = 0
  · rw [if_neg (fun q => q h1)] at h ⊢
    by_cases h2 : max m 0 < ((dec l).1 : Int)
    · rw [if_pos h2] at h
      cases h
    · rw [if_neg h2]
      exact dec_back (s := (dec l).2.1) (v := (dec l).1) (by rw [← h1])
  · rw [if_pos h1] at h
    exact absurd h h1
theorem countS_zero {s : Rs} {m : Int} (h : (countS s m).2.2 = 0) : s.2 = 0 ∧ s.1 = enc (countS s m).1 ++ (countS s m).2.1 := by
  unfold countS at h ⊢
  by_cases h1 : s.2 = 0
  · rw [if_neg (fun q => q h1)] at h ⊢
    by_cases h2 : (cnt s.1 m).2.2 = 0
    · rw [if_neg (fun q => q h2)]
      exact ⟨h1, cnt_back h2⟩
    · rw [if_pos h2] at h
      exact absurd h h2
  · rw [if_pos h1] at h
    exact absurd h h1
theorem txtS_zero {s : Rs} {m : Int} (h : (txtS s m).2.2 = 0) : s.2 = 0 ∧ s.1 = encTL (txtS s m).1 ++ (txtS s m).2.1 := by
  unfold txtS at h ⊢
  by_cases h1 : s.2 = 0
  · rw [if_neg (fun q => q h1)] at h ⊢
    by_cases h2 : (cnt s.1 m).2.2 = 0
    · rw [if_neg (fun q => q h2)] at h ⊢
      by_cases h3 : s.1.length - (cnt s.1 m).2.1 < (cnt s.1 m).1
      · rw [if_pos h3] at h
        cases h
      · rw [if_neg h3]
        refine ⟨h1, ?_⟩
        have hb := cnt_back h2
        have hbd := (cnt_bounds s.1 m).2.1
        generalize (cnt s.1 m).1 = n at *
        generalize (cnt s.1 m).2.1 = z at *
        simp only
        unfold encTL
        have e1 : ((s.1.take (z + n)).drop z) = (s.1.drop z).take n := by rw [List.drop_take]; congr 1; omega
        have e2 : s.1.drop (z + n) = (s.1.drop z).drop n := by rw [List.drop_drop]
        have e3 : ((s.1.drop z).take n).length = n := by rw [List.length_take, List.length_drop]; omega
        rw [e1, e2, e3, List.append_assoc, List.take_append_drop]
        exact hb
    · rw [if_pos h2] at h
      exact absurd h h2
  · rw [if_pos h1] at h
    exact absurd h h1
theorem labsS_zero : ∀ (n : Nat) (acc : List Lab) (s : Rs), (labsS n acc s).2.2 = 0 → s.2 = 0 ∧ ∃ new, (labsS n acc s).1 = acc ++ new ∧ new.length = n ∧ s.1 = labsT new ++ (labsS n acc s).2.1
  | 0, acc, s, h => ⟨h, [], by simp [labsS], rfl, by simp [labsS, labsT]⟩
  | n + 1, acc, s, h => by
    rw [labsS] at h ⊢
    obtain ⟨h1, new, h2, h3, h4⟩ := labsS_zero n _ _ h
    obtain ⟨g1, g2⟩ := txtS_zero h1
    obtain ⟨k1, k2⟩ := txtS_zero g1
    refine ⟨k1, ((txtS s 64).1, (txtS (txtS s 64).2 64).1) :: new, by rw [h2]; simp, by simp [h3], ?_⟩
    show s.1 = (encTL (txtS s 64).1 ++ encTL (txtS (txtS s 64).2 64).1 ++ labsT new) ++ _
    rw [List.append_assoc, List.append_assoc, ← h4, ← g2]
    exact k2
theorem readS_zero {s : Rs} (h : (readS s).2.1 = 0) : s.2 = 0 ∧ s.1 = bytesS (readS s).1 ++ (readS s).2.2.1 ∧ rightB (readS s).1 = true := by
  unfold readS at h ⊢
  simp only at h ⊢
  generalize hq : labsS (countS (txtS s 64).2 8).1 [] (countS (txtS s 64).2 8).2 = q at *
  by_cases h1 : q.2.2 = 0
  · rw [if_neg (fun z => z h1)] at h ⊢
    by_cases h2 : rightB ((txtS s 64).1, q.1) = true
    · rw [if_pos h2]
      obtain ⟨g1, new, g2, g3, g4⟩ := labsS_zero _ _ _ (by rw [hq]; exact h1)
      rw [hq] at g2 g4
      obtain ⟨k1, k2⟩ := countS_zero g1
      obtain ⟨j1, j2⟩ := txtS_zero k1
      have hnew : q.1 = new := by rw [g2]; rfl
      refine ⟨j1, ?_, h2⟩
      unfold bytesS
      rw [if_pos h2]
      simp only
      rw [hnew, g3, List.append_assoc, List.append_assoc, ← g4, ← k2]
      exact j2
    · rw [if_neg h2] at h
      cases h
  · rw [if_pos h1] at h
    exact absurd h h1
theorem wrap_nn {u : Nat} (hu : u < 18446744073709551616) (h : 0 ≤ IntKind.i64.wrap (u : Int)) : (IntKind.i64.wrap (u : Int)).toNat = u := by
  rw [IntKind.wrap_i64] at h ⊢
  omega
theorem evS_zero {l : List Evt} {s9 : Rs} : ∀ (n : Nat) (acc : List Evt) (s : Rs), evS n acc s = (.ok l, s9) → (∀ x ∈ l, 0 ≤ x.1) → ∃ new, l = acc ++ new ∧ new.length = n ∧ s.1 = evsT new ++ s9.1 ∧ (s9.2 = 0 → s.2 = 0)
  | 0, acc, s, h, _ => by
    injection h with h1 h2
    injection h1 with h1
    subst h1; subst h2
    exact ⟨[], by simp, rfl, by simp [evsT], id⟩
  | n + 1, acc, s, h, hp => by
    rw [evS] at h
    split at h
    · injection h with h1 h2
      cases h1
    · rename_i hne
      have hne : (readS (intS (uintS s).2).2).2.1 = 0 := by
        rcases Nat.eq_zero_or_pos (readS (intS (uintS s).2).2).2.1 with q | q
        · exact q
        · exact absurd (by omega) hne
      obtain ⟨new, h2, h3, h4, h5⟩ := evS_zero n _ _ h hp
      obtain ⟨r1, r2, r3⟩ := readS_zero hne
      obtain ⟨i1, i2⟩ := intS_zero r1
      obtain ⟨u1, u2⟩ := uintS_zero i1
      refine ⟨(stampZ (uintS s).1, (intS (uintS s).2).1, (readS (intS (uintS s).2).2).1) :: new, by rw [h2]; simp, by simp [h3], ?_, fun _ => u1⟩
      have hx : 0 ≤ stampZ (uintS s).1 := hp (stampZ (uintS s).1, (intS (uintS s).2).1, (readS (intS (uintS s).2).2).1) (by rw [h2]; simp)
      have e : (stampZ (uintS s).1).toNat = (uintS s).1 := wrap_nn (uintS_lt s) hx
      show s.1 = ((enc (stampZ (uintS s).1).toNat ++ (enc (turnN (intS (uintS s).2).1) ++ bytesS (readS (intS (uintS s).2).2).1)) ++ evsT new) ++ s9.1
      rw [e, List.append_assoc, List.append_assoc, List.append_assoc, ← h4, ← r2, ← i2]
      exact u2
theorem eventsS_zero {l : List Evt} {s s9 : Rs} (h : eventsS s = (.ok l, s9)) (hp : ∀ x ∈ l, 0 ≤ x.1) : s.1 = (enc l.length ++ evsT l) ++ s9.1 ∧ (s9.2 = 0 → s.2 = 0) := by
  unfold eventsS at h
  split at h
  · injection h with h1 h2
    cases h1
  · obtain ⟨new, h2, h3, h4, h5⟩ := evS_zero _ _ _ h hp
    rename_i hne
    have hne : (countS s 64).2.2 = 0 := by
      rcases Nat.eq_zero_or_pos (countS s 64).2.2 with q | q
      · exact q
      · exact absurd (by omega) hne
    obtain ⟨c1, c2⟩ := countS_zero hne
    have hl : l = new := by rw [h2]; rfl
    refine ⟨?_, fun _ => c1⟩
    rw [hl, h3, List.append_assoc, ← h4]
    exact c2
theorem itS_zero {s : Rs} : ∀ m, (itS m s).2 = 0 → (∀ i, i < m → 0 ≤ vlS i s) → s.2 = 0 ∧ s.1 = fldT ((List.range m).map fun i => vlS i s) ++ (itS m s).1
  | 0, h, _ => ⟨h, by simp [fldT, itS]⟩
  | m + 1, h, hp => by
    obtain ⟨u1, u2⟩ := uintS_zero (s := itS m s) h
    obtain ⟨h1, h2⟩ := itS_zero m u1 fun i hi => hp i (by omega)
    refine ⟨h1, ?_⟩
    have e : (vlS m s).toNat = (uintS (itS m s)).1 := wrap_nn (uintS_lt _) (hp m (by omega))
    rw [List.range_succ, List.map_append, h2]
    unfold fldT
    rw [List.map_append, List.flatten_append, List.append_assoc]
    congr 1
    simp only [List.map_cons, List.map_nil, List.flatten_cons, List.flatten_nil, List.append_nil]
    rw [e]
    exact u2
theorem endS_zero {s : Rs} (h : (endS s).2 = 0) : s.2 = 0 ∧ s.1 = [] := by
  unfold endS at h
  by_cases h1 : s.2 = 0
  · rw [if_neg (fun q => q h1)] at h
    by_cases h2 : s.1 = []
    · exact ⟨h1, h2⟩
    · rw [if_neg h2] at h
      cases h
  · rw [if_pos h1] at h
    exact absurd h h1
theorem finP_zero {f g : Fr} {s : Rs} (h : finP g s = (f, 0)) : f = g ∧ s.2 = 0 ∧ s.1 = [] ∧ rightF g = true := by
  unfold finP at h
  split at h
  · rename_i q
    injection h with h1 h2
    exact absurd h2 q
  · rename_i q
    split at h
    · rename_i r
      injection h with h1 h2
      obtain ⟨e1, e2⟩ := endS_zero (s := s) (by
        rcases Nat.eq_zero_or_pos (endS s).2 with z | z
        · exact z
        · exact absurd (by omega) q)
      exact ⟨h1.symm, e1, e2, r⟩
    · injection h with h1 h2
      cases h2
theorem vals_frS {k : Nat} (h1 : 1 ≤ k) (h8 : k ≤ 8) (s : Rs) (ev : List Evt) (sr : Ser) (d : Bt) : valsK (frS k (idxK k).length s ev sr d) k = (List.range (idxK k).length).map fun i => vlS i s := by
  have hk : k = 1 ∨ k = 2 ∨ k = 3 ∨ k = 4 ∨ k = 5 ∨ k = 6 ∨ k = 7 ∨ k = 8 := by omega
  rcases hk with rfl | rfl | rfl | rfl | rfl | rfl | rfl | rfl <;> simp [valsK, idxK, frS, getN, List.range, List.range.loop] <;> simp [vb, vbL, idxK] <;> (generalize vlS 0 s = x0 at *; generalize vlS 1 s = x1 at *; generalize vlS 2 s = x2 at *; generalize vlS 3 s = x3 at *; generalize vlS 4 s = x4 at *; generalize vlS 5 s = x5 at *) <;> (repeat' (first | exact rfl | refine And.intro ?_ ?_))
theorem rightF_k {f : Fr} {k : Nat} (hk : f.k = k) (h1 : 1 ≤ k) (h8 : k ≤ 8) (h : rightF f = true) : rightK f k = true := by
  unfold rightF at h
  rw [if_pos (by omega), hk] at h
  exact h
theorem fld_back {k : Nat} (h1 : 1 ≤ k) (h8 : k ≤ 8) {s : Rs} {ev : List Evt} {sr : Ser} {d : Bt} (h : (itS (idxK k).length s).2 = 0) (hr : rightF (frS k (idxK k).length s ev sr d) = true) : s.1 = fldT (valsK (frS k (idxK k).length s ev sr d) k) ++ (itS (idxK k).length s).1 := by
  obtain ⟨q1, q2, q3, q4⟩ := right_parts (rightF_k rfl h1 h8 hr)
  have e := vals_frS h1 h8 s ev sr d
  rw [e] at q2 ⊢
  exact (itS_zero _ h fun i hi => (q2 (vlS i s) (List.mem_map.2 ⟨i, List.mem_range.2 hi, rfl⟩)).1).2
theorem parseK_zero {k : Nat} (h1 : 1 ≤ k) (h8 : k ≤ 8) {s : Rs} {f : Fr} (h : parseK k s = (f, 0)) : f.k = k ∧ rightF f = true ∧ s.1 = fldT (valsK f k) ++ extT f k := by
  unfold parseK at h
  split at h
  · rename_i q
    injection h with g1 g2
    exact absurd g2 q
  rename_i q
  have q : (itS (idxK k).length s).2 = 0 := by
    rcases Nat.eq_zero_or_pos (itS (idxK k).length s).2 with z | z
    · exact z
    · exact absurd (by omega) q
  unfold tailP at h
  split at h
  · split at h
    · rename_i he
      injection h with g1 g2
      exact absurd g2 (eventsS_err he)
    · rename_i l s2 he
      obtain ⟨rfl, e1, e2, hr⟩ := finP_zero h
      have hk := rightF_k (k := 5) rfl (by decide) (by decide) hr
      obtain ⟨p1, p2, p3, p4⟩ := right_parts hk
      have p3 : batchB (frS 5 3 s l ([], []) []).n l = true := p3
      simp only [batchB, Bool.and_eq_true] at p3
      have hp : ∀ x ∈ l, 0 ≤ x.1 := fun x hx => by
        have := List.all_eq_true.1 p3.2.2.2 x hx
        simp only [evOk, Bool.and_eq_true] at this
        exact (rngB_iff.1 this.1).1
      obtain ⟨z1, z2⟩ := eventsS_zero he hp
      refine ⟨rfl, hr, ?_⟩
      have hb := fld_back (k := 5) (by decide) (by decide) (ev := l) (sr := ([], [])) (d := []) q hr
      rw [hb, z1, e2, List.append_nil]
      rfl
  · split at h
    · rename_i he
      injection h with g1 g2
      exact absurd g2 he
    · rename_i he
      split at h
      · rename_i ht
        injection h with g1 g2
        exact absurd g2 ht
      · rename_i ht
        obtain ⟨rfl, e1, e2, hr⟩ := finP_zero h
        have he : (readS (itS (idxK 8).length s)).2.1 = 0 := by
          rcases Nat.eq_zero_or_pos (readS (itS (idxK 8).length s)).2.1 with z | z
          · exact z
          · exact absurd (by omega) he
        obtain ⟨r1, r2, r3⟩ := readS_zero he
        obtain ⟨t1, t2⟩ := txtS_zero e1
        refine ⟨rfl, hr, ?_⟩
        have hb := fld_back (k := 8) (by decide) (by decide) (ev := []) (sr := (readS (itS (idxK 8).length s)).1) (d := (txtS (readS (itS (idxK 8).length s)).2.2 4096).1) q hr
        rw [hb, r2, t2, e2, List.append_nil]
        rfl
  · rename_i n5 n8
    obtain ⟨rfl, e1, e2, hr⟩ := finP_zero h
    refine ⟨rfl, hr, ?_⟩
    have hb := fld_back h1 h8 (ev := []) (sr := ([], [])) (d := []) q hr
    rw [hb, e2]
    unfold extT
    rw [if_neg n5, if_neg n8]
theorem parseF_zero {l : Bt} {f : Fr} (h : parseF l = (f, 0)) : l = frT f f.k.toNat ∧ rightF f = true := by
  unfold parseF at h
  split at h
  · rename_i q
    injection h with g1 g2
    exact absurd g2 q
  rename_i q
  have q : (uintS (l, 0)).2.2 = 0 := by
    rcases Nat.eq_zero_or_pos (uintS (l, 0)).2.2 with z | z
    · exact z
    · exact absurd (by omega) q
  split at h
  · injection h with g1 g2
    cases g2
  rename_i hk
  obtain ⟨u1, u2⟩ := uintS_zero q
  obtain ⟨k1, k2, k3⟩ := parseK_zero (by omega) (by omega) h
  refine ⟨?_, k2⟩
  have e : f.k.toNat = (uintS (l, 0)).1 := by rw [k1]; rfl
  rw [e]
  unfold frT
  rw [List.append_assoc, ← k3]
  exact u2
theorem open_back {l : Bt} (h : openErr l = 0) : l = sealT (openBody l) := by
  unfold openErr at h
  split at h
  · cases h
  · split at h
    · rename_i q
      have ho := of_decide_eq_true q
      unfold openBody sealT
      rw [if_pos q, ← ho.2, List.take_append_drop]
    · cases h
theorem decodeF_zero {l : Bt} {f : Fr} (h : decodeF l = (f, 0)) : l = encodeT f ∧ rightF f = true := by
  unfold decodeF at h
  split at h
  · injection h with g1 g2
    cases g2
  split at h
  · rename_i q
    injection h with g1 g2
    have := openErr_nn l
    omega
  · rename_i q
    obtain ⟨p1, p2⟩ := parseF_zero h
    refine ⟨?_, p2⟩
    unfold encodeT
    rw [← p1]
    exact open_back (by have := openErr_nn l; omega)
section
variable {F : Nat → Prop} {ρ : Nat → Option Value} {w w' : World} {H : Hp}
theorem data_retG {s : Nat} {rows : List (List D)} {us : List Value} {e : TypeId} {v : Value} (En : Env F ρ H w) (hf : FlatVs rows.flatten us) (hs : ∀ r ∈ rows, r.length = s) (how : Ow w' w.heap.size e s v rows.length us) (hb : Below w.heap.size w w') :
    ∃ F', Step F ρ H w F' ρ H w' ∧ Env F' ρ H w' ∧ RD w' F' (.sl s rows) v := by
  have gen : ∀ N : Nat → Prop, (∀ b, N b → w.heap.size ≤ b ∧ b < w'.heap.size) → Step F ρ H w (fun b => F b ∨ N b) ρ H w' ∧ Env (fun b => F b ∨ N b) ρ H w' := by
    intro N hN
    refine ⟨⟨hb.os, hb.tape, hb.output, hb.size, fun b h _ => hb.block b h, fun b h => .inl h, fun b h => h.elim .inl fun h => .inr (.inl (hN b h).1), fun b h => .inr h⟩, ⟨fun b h => h.elim (fun h => Nat.lt_of_lt_of_le (En.fb b h) hb.size) fun h => (hN b h).2, En.abs, fun i o h1 h2 => ?_, fun i j o o' hh hh' b h1 h2 l1 l2 => En.inj i j o o' hh hh' b h1 h2 l1 l2⟩⟩
    obtain ⟨hh, e1, e2, e3⟩ := En.rep i o h1 h2
    refine ⟨hh, e1, e2.mono hb.size (fun b _ hlt => hb.block b hlt) (fun b hF => hb.block b (En.fb b hF)) (fun b h => .inl h) (Keep.refl _), fun b hk => ⟨Nat.lt_of_lt_of_le (e3 b hk).1 hb.size, fun q => ?_⟩⟩
    rcases q with q | q
    · exact (e3 b hk).2 q
    · have := (hN b q).1
      have := (e3 b hk).1
      omega
  obtain ⟨A', c', he, g1, g2, hrd⟩ := how.form
  rcases Nat.eq_zero_or_pos rows.length with h0 | h0
  · obtain rfl := List.eq_nil_of_length_eq_zero h0
    subst he
    obtain ⟨S, E⟩ := gen (fun _ => False) (fun b h => h.elim)
    exact ⟨_, S, E, .sl rfl hs g1 g2 .nil fun h => by simp at h⟩
  · have hlt : ∀ k, blkOf v = some k → w.heap.size ≤ k ∧ k < w'.heap.size := fun k hk => by
      obtain ⟨g, off, cap, rfl, hg0, hg, _⟩ := how.open_ h0
      injection hk with hk
      subst hk
      exact ⟨hg0, hg⟩
    subst he
    obtain ⟨S, E⟩ := gen (fun b => blkOf (.slice A' rows.length c') = some b) hlt
    refine ⟨_, S, E, .sl rfl hs g1 g2 hf.rds fun hp' => ?_⟩
    obtain ⟨b, off, rfl, hb, hc⟩ := hrd.2 hp'
    exact ⟨b, off, rfl, .inr rfl, hc⟩
end
theorem frO_ok : FrOk frO := by
  refine ⟨?_, ?_, ?_, ?_, ?_, ?_, ?_, ?_, ?_, ?_, ?_, ?_, ?_⟩
  all_goals first | (show in64 0; unfold in64; omega) | (simp [frO])
theorem finP_fok {g : Fr} {s : Rs} (h : FrOk g) : FrOk (finP g s).1 := by
  unfold finP
  split
  · exact frO_ok
  · split
    · exact h
    · exact frO_ok
theorem parseF_ok (l : Bt) : FrOk (parseF l).1 := by
  unfold parseF
  split
  · exact frO_ok
  split
  · exact frO_ok
  rename_i hk
  have hk : (uintS (l, 0)).1 ≤ 8 := by omega
  generalize (uintS (l, 0)).1 = k at *
  unfold parseK
  split
  · exact frO_ok
  unfold tailP
  split
  · split
    · exact frO_ok
    · rename_i he
      obtain ⟨g1, g2⟩ := eventsS_ok he
      exact finP_fok (frS_ok 5 _ _ (by decide) _ (by omega) (fun x hx => by have := g2 x hx; omega) (by simp))
  · split
    · exact frO_ok
    · split
      · exact frO_ok
      · exact finP_fok (frS_ok 8 _ _ (by decide) _ (by simp) (by simp) (by have := readS_labs (itS (idxK 8).length (uintS (l, 0)).2); omega))
  · exact finP_fok (frS_ok _ _ _ hk _ (by simp) (by simp) (by simp))
theorem decodeF_ok (l : Bt) : FrOk (decodeF l).1 := by
  unfold decodeF
  split
  · exact frO_ok
  · split
    · exact frO_ok
    · exact parseF_ok _
theorem encode_bad (f : Fr) (hf : FrOk f) (hr : rightF f = false) : Sat Tryz.prog 26 [.d (frD f)] [] (.tup [.d nilV, iA 10]) [] := by
  have r1 := right_sat f hf
  rw [hr] at r1
  refine sat_of_vc (T := tiOf Tryz.prog) (E := E0) Tryz.func26 rfl rfl hE0 hm0 rfl ?_
  conv => whnf
  iterate 5
    repeat' (first | exact True.intro | ((first | refine Yb fun _ => ?_ | refine Yc fun _ => ?_ | refine Ya (by kernel_rfl) ?_ | refine Ya (by decide) ?_ | refine Yd (by decide) fun _ => ?_ | refine Ye (by decide) fun _ => ?_ | refine ⟨_, _, r1.pu rfl rfl, ?_⟩); conv => whnf) | (refine Ya (fun _ => ?_) (fun _ => ?_) <;> conv => whnf))
    all_goals try (refine Or.inl ?_; conv => whnf)
  all_goals refine ⟨[], ?_⟩
  repeat (any_goals (first | exact True.intro | exact rfl | exact (by kernel_rfl) | refine Ya ?_ ?_))
  all_goals conv => whnf
theorem encode_ok (f : Fr) (hf : FrOk f) (hz : ∀ x ∈ f.ev, in64 x.2.1) (hr : rightF f = true) (hL : (encodeT f).length ≤ 65536) : Sat Tryz.prog 26 [.d (frD f)] [] (.tup [.own 0, iA 0]) [.sl 1 ((encodeT f).map bR)] := by
  unfold encodeT at hL ⊢
  by_cases h : 1 ≤ f.k ∧ f.k ≤ 8
  · have hk : f.k = 1 ∨ f.k = 2 ∨ f.k = 3 ∨ f.k = 4 ∨ f.k = 5 ∨ f.k = 6 ∨ f.k = 7 ∨ f.k = 8 := by omega
    rcases hk with e | e | e | e | e | e | e | e
    all_goals rw [e] at hL ⊢
    · exact encode_1 f e hf (rightF_k e (by decide) (by decide) hr)
    · exact encode_2 f e hf (rightF_k e (by decide) (by decide) hr)
    · exact encode_3 f e hf (rightF_k e (by decide) (by decide) hr)
    · exact encode_4 f e hf (rightF_k e (by decide) (by decide) hr)
    · exact encode_5 f e hf hz (rightF_k e (by decide) (by decide) hr) hL
    · exact encode_6 f e hf (rightF_k e (by decide) (by decide) hr)
    · exact encode_7 f e hf (rightF_k e (by decide) (by decide) hr)
    · exact encode_8 f e hf (rightF_k e (by decide) (by decide) hr)
  · unfold rightF at hr
    rw [if_neg h] at hr
    cases hr
theorem encode_big (f : Fr) (hf : FrOk f) (hz : ∀ x ∈ f.ev, in64 x.2.1) (hr : rightF f = true) (hL : 65536 < (encodeT f).length) : Sat Tryz.prog 26 [.d (frD f)] [] (.tup [.d nilV, iA 17]) [] := by
  unfold encodeT at hL
  by_cases h : 1 ≤ f.k ∧ f.k ≤ 8
  · by_cases e : f.k = 5
    · rw [e] at hL
      exact encode_5b f e hf hz (rightF_k e (by decide) (by decide) hr) hL
    · exfalso
      have hr' := rightF_k (k := f.k.toNat) (by omega) (by omega) (by omega) hr
      obtain ⟨q1, q2, q3, q4⟩ := right_parts hr'
      rw [sealT_len] at hL
      unfold frT at hL
      have h1 := fldT_len (valsK f f.k.toNat)
      have h2 := valsK_len f f.k.toNat
      have h3 := enc_lens f.k.toNat
      unfold extT at hL
      rw [if_neg (by omega), List.length_append, List.length_append] at hL
      by_cases e8 : f.k = 8
      · rw [if_pos (by omega), List.length_append] at hL
        rw [e8] at q3
        have q3 : (rightB f.sr && decide (f.d.length ≤ 4096)) = true := q3
        simp only [Bool.and_eq_true, decide_eq_true_eq] at q3
        have h4 := serT_len f.sr
        have h5 := encTL_len f.d
        omega
      · rw [if_neg (by omega)] at hL
        simp at hL
        omega
  · unfold rightF at hr
    rw [if_neg h] at hr
    cases hr
theorem encode_pre {f : Fr} {xs : List D} {r : AV} {H' : List AObj} (h : Sat Tryz.prog 26 [.d (frD f)] [] r H') (hn : nilLe xs (frR f)) : Sat Tryz.prog 26 [.d (.agg xs)] [] r H' :=
  h.pre fun w F ρ vs h => by
    cases h with | cons h1 h2 =>
    cases h1 with | d h1 => exact .cons (.d (h1.nilLe hn)) h2
structure Ag where
  id : Int
  most : Int
  boot : Int
  epoch : Int
  clock : Int
  seq : Int
  kept : List Evt
  dropped : Int
  probes : List (Int × Int × Int)
abbrev prR (p : Int × Int × Int) : List D := [iD p.1, iD p.2.1, iD p.2.2]
abbrev agC (a : Ag) (x y : AV) : List AV := [iA a.id, iA a.most, iA a.boot, iA a.epoch, iA a.clock, iA a.seq, x, iA a.dropped, y]
abbrev agH (a : Ag) : List AObj := [.cells (agC a (.own 1) (.own 2)), .sl 4 (a.kept.map evR), .sl 3 (a.probes.map prR)]
abbrev agH2 (a : Ag) : List AObj := [.cells (agC a (.own 3) (.own 4)), .dead, .dead, .sl 4 (a.kept.map evR), .sl 3 (a.probes.map prR)]
def observeA (a : Ag) (r : Int) : Ag × Nat := if a.boot = 0 then (a, 21) else if r < 0 ∨ 4611686018427387903 < r then (a, 11) else ({ a with clock := max a.clock r }, 0)
theorem maxE (a b : Int) : (if b > a then b else a) = max a b := by rw [Int.max_def]; split <;> split <;> omega
theorem observe_sat (a : Ag) (r : Int) : Sat Tryz.prog 45 [.ptr 0 0, iA r] (agH a) (iA (observeA a r).2) (agH (observeA a r).1) := by
  obtain ⟨id, most, boot, epoch, clock, seq, kept, dropped, probes⟩ := a
  unfold observeA
  simp only
  by_cases h1 : boot = 0
  · rw [if_pos h1]
    have d1 : (boot == 0) = true := by rw [beq_iff_eq]; exact h1
    refine sat_of_vc (T := tiOf Tryz.prog) (E := E0) Tryz.func45 rfl rfl hE0 hm0 rfl ?_
    conv => whnf
    iterate 4
      repeat' (first | exact True.intro | ((first | refine Yb fun _ => ?_ | refine Yc fun _ => ?_ | refine Ya (by kernel_rfl) ?_ | refine Ya (by decide) ?_ | refine Yd (by decide) fun _ => ?_ | refine Ye (by decide) fun _ => ?_); conv => whnf) | (refine Ya (fun _ => ?_) (fun _ => ?_) <;> conv => whnf))
      all_goals try (refine Or.inl ?_; conv => whnf)
    all_goals try exact (bnl d1 ‹_›).elim
    all_goals refine ⟨[], ?_⟩
    repeat (any_goals (first | exact True.intro | exact rfl | exact (by kernel_rfl) | refine Ya ?_ ?_))
    all_goals conv => whnf
  · rw [if_neg h1]
    have d1 : (boot == 0) = false := by rw [beq_eq_false_iff_ne]; exact h1
    by_cases h2 : r < 0 ∨ 4611686018427387903 < r
    · rw [if_pos h2]
      have hneg : ¬ (decide (r < 0) = false ∧ decide (r > 4611686018427387903) = false) := by
        rintro ⟨p1, p2⟩
        have p1 := of_decide_eq_false p1
        have p2 := of_decide_eq_false p2
        omega
      refine sat_of_vc (T := tiOf Tryz.prog) (E := E0) Tryz.func45 rfl rfl hE0 hm0 rfl ?_
      conv => whnf
      iterate 4
        repeat' (first | exact True.intro | ((first | refine Yb fun _ => ?_ | refine Yc fun _ => ?_ | refine Ya (by kernel_rfl) ?_ | refine Ya (by decide) ?_ | refine Yd (by decide) fun _ => ?_ | refine Ye (by decide) fun _ => ?_); conv => whnf) | (refine Ya (fun _ => ?_) (fun _ => ?_) <;> conv => whnf))
        all_goals try (refine Or.inl ?_; conv => whnf)
      all_goals try exact (bnl ‹_› d1).elim
      all_goals try exact (hneg ⟨‹_›, ‹_›⟩).elim
      all_goals refine ⟨[], ?_⟩
      repeat (any_goals (first | exact True.intro | exact rfl | exact (by kernel_rfl) | refine Ya ?_ ?_))
      all_goals conv => whnf
    · rw [if_neg h2]
      have d2 : decide (r < 0) = false := decide_eq_false (by omega)
      have d3 : decide (r > 4611686018427387903) = false := decide_eq_false (by omega)
      refine sat_of_vc (T := tiOf Tryz.prog) (E := E0) Tryz.func45 rfl rfl hE0 hm0 rfl ?_
      conv => whnf
      iterate 4
        repeat' (first | exact True.intro | ((first | refine Yb fun _ => ?_ | refine Yc fun _ => ?_ | refine Ya (by kernel_rfl) ?_ | refine Ya (by decide) ?_ | refine Yd (by decide) fun _ => ?_ | refine Ye (by decide) fun _ => ?_); conv => whnf) | (refine Ya (fun _ => ?_) (fun _ => ?_) <;> conv => whnf))
        all_goals try (refine Or.inl ?_; conv => whnf)
      all_goals try exact (bnl ‹_› d1).elim
      all_goals try exact (bnl ‹_› d2).elim
      all_goals try exact (bnl ‹_› d3).elim
      all_goals refine ⟨[], ?_⟩
      repeat (any_goals (first | exact True.intro | exact rfl | exact (by kernel_rfl) | refine Ya ?_ ?_))
      all_goals conv => whnf
      exact congrArg (fun z => iA z) (maxE _ _)
section
variable (a : Ag)
theorem agId_sat : Sat Tryz.prog 30 [.ptr 0 0] (agH a) (iA a.id) (agH a) := by
  refine sat_of_vc (T := tiOf Tryz.prog) (E := E0) Tryz.func30 rfl rfl hE0 hm0 rfl ?_
  conv => whnf
  iterate 3
    repeat' (first | exact True.intro | ((first | refine Yb fun _ => ?_ | refine Yc fun _ => ?_ | refine Ya (by kernel_rfl) ?_ | refine Ya (by decide) ?_ | refine Yd (by decide) fun _ => ?_ | refine Ye (by decide) fun _ => ?_); conv => whnf) | (refine Ya (fun _ => ?_) (fun _ => ?_) <;> conv => whnf))
    all_goals try (refine Or.inl ?_; conv => whnf)
  all_goals refine ⟨[], ?_⟩
  repeat (any_goals (first | exact True.intro | exact rfl | exact (by kernel_rfl) | refine Ya ?_ ?_))
  all_goals conv => whnf
theorem agBoot_sat : Sat Tryz.prog 15 [.ptr 0 0] (agH a) (iA a.boot) (agH a) := by
  refine sat_of_vc (T := tiOf Tryz.prog) (E := E0) Tryz.func15 rfl rfl hE0 hm0 rfl ?_
  conv => whnf
  iterate 3
    repeat' (first | exact True.intro | ((first | refine Yb fun _ => ?_ | refine Yc fun _ => ?_ | refine Ya (by kernel_rfl) ?_ | refine Ya (by decide) ?_ | refine Yd (by decide) fun _ => ?_ | refine Ye (by decide) fun _ => ?_); conv => whnf) | (refine Ya (fun _ => ?_) (fun _ => ?_) <;> conv => whnf))
    all_goals try (refine Or.inl ?_; conv => whnf)
  all_goals refine ⟨[], ?_⟩
  repeat (any_goals (first | exact True.intro | exact rfl | exact (by kernel_rfl) | refine Ya ?_ ?_))
  all_goals conv => whnf
theorem agEpoch_sat : Sat Tryz.prog 23 [.ptr 0 0] (agH a) (iA a.epoch) (agH a) := by
  refine sat_of_vc (T := tiOf Tryz.prog) (E := E0) Tryz.func23 rfl rfl hE0 hm0 rfl ?_
  conv => whnf
  iterate 3
    repeat' (first | exact True.intro | ((first | refine Yb fun _ => ?_ | refine Yc fun _ => ?_ | refine Ya (by kernel_rfl) ?_ | refine Ya (by decide) ?_ | refine Yd (by decide) fun _ => ?_ | refine Ye (by decide) fun _ => ?_); conv => whnf) | (refine Ya (fun _ => ?_) (fun _ => ?_) <;> conv => whnf))
    all_goals try (refine Or.inl ?_; conv => whnf)
  all_goals refine ⟨[], ?_⟩
  repeat (any_goals (first | exact True.intro | exact rfl | exact (by kernel_rfl) | refine Ya ?_ ?_))
  all_goals conv => whnf
theorem agClock_sat : Sat Tryz.prog 16 [.ptr 0 0] (agH a) (iA a.clock) (agH a) := by
  refine sat_of_vc (T := tiOf Tryz.prog) (E := E0) Tryz.func16 rfl rfl hE0 hm0 rfl ?_
  conv => whnf
  iterate 3
    repeat' (first | exact True.intro | ((first | refine Yb fun _ => ?_ | refine Yc fun _ => ?_ | refine Ya (by kernel_rfl) ?_ | refine Ya (by decide) ?_ | refine Yd (by decide) fun _ => ?_ | refine Ye (by decide) fun _ => ?_); conv => whnf) | (refine Ya (fun _ => ?_) (fun _ => ?_) <;> conv => whnf))
    all_goals try (refine Or.inl ?_; conv => whnf)
  all_goals refine ⟨[], ?_⟩
  repeat (any_goals (first | exact True.intro | exact rfl | exact (by kernel_rfl) | refine Ya ?_ ?_))
  all_goals conv => whnf
theorem agSeq_sat : Sat Tryz.prog 20 [.ptr 0 0] (agH a) (iA a.seq) (agH a) := by
  refine sat_of_vc (T := tiOf Tryz.prog) (E := E0) Tryz.func20 rfl rfl hE0 hm0 rfl ?_
  conv => whnf
  iterate 3
    repeat' (first | exact True.intro | ((first | refine Yb fun _ => ?_ | refine Yc fun _ => ?_ | refine Ya (by kernel_rfl) ?_ | refine Ya (by decide) ?_ | refine Yd (by decide) fun _ => ?_ | refine Ye (by decide) fun _ => ?_); conv => whnf) | (refine Ya (fun _ => ?_) (fun _ => ?_) <;> conv => whnf))
    all_goals try (refine Or.inl ?_; conv => whnf)
  all_goals refine ⟨[], ?_⟩
  repeat (any_goals (first | exact True.intro | exact rfl | exact (by kernel_rfl) | refine Ya ?_ ?_))
  all_goals conv => whnf
theorem agDropped_sat : Sat Tryz.prog 29 [.ptr 0 0] (agH a) (iA a.dropped) (agH a) := by
  refine sat_of_vc (T := tiOf Tryz.prog) (E := E0) Tryz.func29 rfl rfl hE0 hm0 rfl ?_
  conv => whnf
  iterate 3
    repeat' (first | exact True.intro | ((first | refine Yb fun _ => ?_ | refine Yc fun _ => ?_ | refine Ya (by kernel_rfl) ?_ | refine Ya (by decide) ?_ | refine Yd (by decide) fun _ => ?_ | refine Ye (by decide) fun _ => ?_); conv => whnf) | (refine Ya (fun _ => ?_) (fun _ => ?_) <;> conv => whnf))
    all_goals try (refine Or.inl ?_; conv => whnf)
  all_goals refine ⟨[], ?_⟩
  repeat (any_goals (first | exact True.intro | exact rfl | exact (by kernel_rfl) | refine Ya ?_ ?_))
  all_goals conv => whnf
theorem agProbes_sat : Sat Tryz.prog 21 [.ptr 0 0] (agH a) (iA a.probes.length) (agH a) := by
  have hl : (a.probes.map prR).length = a.probes.length := List.length_map _
  refine sat_of_vc (T := tiOf Tryz.prog) (E := E0) Tryz.func21 rfl rfl hE0 hm0 rfl ?_
  conv => whnf
  iterate 3
    repeat' (first | exact True.intro | ((first | refine Yb fun _ => ?_ | refine Yc fun _ => ?_ | refine Ya (by kernel_rfl) ?_ | refine Ya (by decide) ?_ | refine Yd (by decide) fun _ => ?_ | refine Ye (by decide) fun _ => ?_); conv => whnf) | (refine Ya (fun _ => ?_) (fun _ => ?_) <;> conv => whnf))
    all_goals try (refine Or.inl ?_; conv => whnf)
  all_goals refine ⟨[], ?_⟩
  repeat (any_goals (first | exact True.intro | exact rfl | exact (by kernel_rfl) | refine Ya ?_ ?_))
  all_goals conv => whnf
  rw [hl]
def firstA (a : Ag) : Int := a.seq - a.kept.length
theorem agFirst_sat (h : in64 (firstA a)) : Sat Tryz.prog 19 [.ptr 0 0] (agH a) (iA (firstA a)) (agH a) := by
  have hl : (a.kept.map evR).length = a.kept.length := List.length_map _
  have hw : IntKind.i64.wrap (a.seq - ((a.kept.map evR).length : Int)) = firstA a := by
    unfold firstA at h ⊢
    rw [hl, wi h.1 h.2]
  refine sat_of_vc (T := tiOf Tryz.prog) (E := E0) Tryz.func19 rfl rfl hE0 hm0 rfl ?_
  conv => whnf
  iterate 3
    repeat' (first | exact True.intro | ((first | refine Yb fun _ => ?_ | refine Yc fun _ => ?_ | refine Ya (by kernel_rfl) ?_ | refine Ya (by decide) ?_ | refine Yd (by decide) fun _ => ?_ | refine Ye (by decide) fun _ => ?_); conv => whnf) | (refine Ya (fun _ => ?_) (fun _ => ?_) <;> conv => whnf))
    all_goals try (refine Or.inl ?_; conv => whnf)
  all_goals refine ⟨[], ?_⟩
  repeat (any_goals (first | exact True.intro | exact rfl | exact (by kernel_rfl) | refine Ya ?_ ?_))
  all_goals conv => whnf
  rw [hw]
end
end Go.Proofs.YtfbfpnfgabamfaaGreat
namespace Go.Proofs.YtfbfpnfgabamfaaGreat
set_option linter.unusedSimpArgs false
set_option linter.unusedVariables false
open Go.RowKit
section
variable {P : Program} {w : World} {F : Nat → Prop} {ρ : Nat → Option Value} {H : Hp} {L : List AObj} {n : Nat} {g : FuncId}
end
end Go.Proofs.YtfbfpnfgabamfaaGreat
namespace Go.Proofs.YtfbfpnfgabamfaaGreat
set_option linter.unusedSimpArgs false
open Go.RowKit
set_option maxRecDepth 100000
set_option linter.unusedVariables false
section
variable {F : Nat → Prop} {ρ : Nat → Option Value} {w : World} {H : Hp} {P : Program} {L : List AObj} {n : Nat} {g : FuncId}
def sbs (i : Nat) (x : D) : AV → AV
  | .own j => cond (Nat.beq j i) (.d x) (.own j)
  | y => y
theorem Env.recell {j : Nat} {cs cs' : List AV} (En : Env F ρ H w) (hj : H j = some (.cells cs)) (h : ∀ vs, RAs w F ρ cs vs → RAs w F ρ cs' vs) : Step F ρ H w F ρ (updF H j (some (.cells cs'))) w ∧ Env F ρ (updF H j (some (.cells cs'))) w := by
  have hk : ∀ i o, updF H j (some (.cells cs')) i = some o → (i = j ∧ o = .cells cs') ∨ H i = some o := by
    intro i o hi
    by_cases e : i = j
    · subst e; rw [updF_same] at hi; injection hi with hi; exact .inl ⟨rfl, hi.symm⟩
    · rw [updF_ne _ _ e] at hi; exact .inr hi
  refine ⟨⟨rfl, rfl, rfl, Nat.le_refl _, fun _ _ _ => rfl, fun b hb => hb, fun b hb => .inl hb, fun b ⟨i, o, hh, h1, h2, h3, h4⟩ => ?_⟩, ⟨En.fb, fun i hi => ?_, fun i o hi hl => ?_, fun i k o o' hh hh' b e1 e2 l1 l2 r1 r2 b1 b2 => ?_⟩⟩
  · rcases hk i o h1 with ⟨rfl, rfl⟩ | q
    · exact .inr ⟨i, _, hh, hj, rfl, h3, h4⟩
    · exact .inr ⟨i, o, hh, q, h2, h3, h4⟩
  · by_cases e : i = j
    · subst e; rw [updF_same] at hi; cases hi
    · rw [updF_ne _ _ e] at hi; exact En.abs i hi
  · rcases hk i o hi with ⟨rfl, rfl⟩ | q
    · obtain ⟨hh, e1, ⟨b, t, vs, q1, q2, q3, q4⟩, e3⟩ := En.rep i _ hj rfl
      exact ⟨hh, e1, ⟨b, t, vs, q1, q2, h _ q3, q4⟩, e3⟩
    · exact En.rep i o q hl
  · have a1 : ∃ o1, H i = some o1 ∧ o1.live = true := by
      rcases hk i o e1 with ⟨rfl, rfl⟩ | q
      · exact ⟨_, hj, rfl⟩
      · exact ⟨o, q, l1⟩
    have a2 : ∃ o1, H k = some o1 ∧ o1.live = true := by
      rcases hk k o' e2 with ⟨rfl, rfl⟩ | q
      · exact ⟨_, hj, rfl⟩
      · exact ⟨o', q, l2⟩
    obtain ⟨o1, g1, g2⟩ := a1
    obtain ⟨o2, g3, g4⟩ := a2
    exact En.inj i k o1 o2 hh hh' b g1 g3 g2 g4 r1 r2 b1 b2
theorem ras_rds : ∀ {ds : List D} {vs : List Value}, RAs w F ρ (ds.map .d) vs → (∀ c ∈ vs, c.oneCell' = true) → RDs w F ds vs
  | [], _, h, _ => by cases h; exact .nil
  | d :: ds, _, h, h1 => by
    cases h with | cons h2 h3 =>
    cases h2 with | d h2 => exact .cons h2 (h1 _ (List.mem_cons_self ..)) (ras_rds h3 fun c hc => h1 c (List.mem_cons_of_mem _ hc))
end
abbrev ds2 : List D := [iD 5, iD 1, iD 2, iD 0, iD 0, iD 0, iD 0, iD 5, iD 0, iD 0, .sl 4 [[iD 9, iD (-4), tD [109], nilV]], tD [], nilV, nilV]
section
variable {P : Program} {g : FuncId} {args : List AV} {H : List AObj} {r : AV}
theorem Sat.nilCell {cs cs' : List AV} {T : List AObj} (s : Nat) (h : Sat P g args H r (.cells cs :: T))
    (hcs : ∀ w F ρ, ρ (T.length + 1) = some (.slice none 0 0) → ∀ vs, RAs w F ρ cs vs → RAs w F ρ cs' vs) : Sat P g args H r (.cells cs' :: (T ++ [.sl s []])) := by
  intro F ρ w vals En hv
  refine (h F ρ w vals En hv).mono ?_
  rintro e w' ⟨v, rfl, F', ρ', S, K, E, R⟩
  have hn : hp (.cells cs :: T) (T.length + 1) = none := List.getElem?_eq_none (by simp)
  have hG : w'.grownBy w' none := ⟨rfl, rfl, rfl, Nat.le_refl _, fun _ _ _ => rfl⟩
  obtain ⟨S1, K1, E1⟩ := E.new (n := T.length + 1) (o' := .sl s []) (h := .slice none 0 0) hn hG (fun b hb => by cases hb) ⟨[], Ow.nil _ _ _ _, .nil, fun r hr => by cases hr⟩
  have h0 : updF (hp (.cells cs :: T)) (T.length + 1) (some (.sl s [])) 0 = some (.cells cs) := by rw [updF_ne _ _ (by omega)]; rfl
  obtain ⟨S2, E2⟩ := E1.recell (cs' := cs') h0 (hcs _ _ _ (updF_same _ _ _))
  have e : updF (updF (hp (.cells cs :: T)) (T.length + 1) (some (.sl s []))) 0 (some (.cells cs')) = hp (.cells cs' :: (T ++ [.sl s []])) := by
    funext i
    match i with
    | 0 => rfl
    | i + 1 =>
      rw [updF_ne _ _ (by omega)]
      show _ = (T ++ [AObj.sl s []])[i]?
      by_cases hi : i = T.length
      · subst hi
        rw [updF_same, List.getElem?_append_right (Nat.le_refl _), Nat.sub_self]
        rfl
      · rw [updF_ne _ _ (by omega)]
        show T[i]? = _
        rcases Nat.lt_or_ge i T.length with q | q
        · rw [List.getElem?_append_left q]
        · rw [List.getElem?_eq_none q, List.getElem?_eq_none (by simp; omega)]
  rw [e] at S2 E2
  exact ⟨v, rfl, F', _, (S.trans S1).trans S2, K.trans K1, E2, R.mono (fun _ _ => rfl) (fun _ h => h) K1⟩
end
theorem ras_nil {w : World} {F : Nat → Prop} {ρ : Nat → Option Value} {n : Nat} (h : ρ n = some (.slice none 0 0)) : ∀ {xs ys : List AV} {vs : List Value}, RAs w F ρ (xs ++ .d nilV :: ys) vs → RAs w F ρ (xs ++ .own n :: ys) vs
  | [], _, _, h0 => by
    cases h0 with | cons h1 h2 =>
    obtain rfl := h1.v_out
    exact .cons (.own h) h2
  | x :: xs, _, _, h0 => by
    cases h0 with | cons h1 h2 => exact .cons h1 (ras_nil h (xs := xs) h2)
theorem Sat.agNil {P : Program} {g : FuncId} {args : List AV} {H : List AObj} {r : AV} (a : Ag) {T : List AObj} (h : Sat P g args H r (.cells (agC a (.d nilV) (.d nilV)) :: T)) (n : Nat) (hn : T.length + 1 = n) :
    Sat P g args H r (.cells (agC a (.own n) (.own (n + 1))) :: (T ++ [.sl 4 [], .sl 3 []])) := by
  have h1 := h.nilCell (cs' := agC a (.own n) (.d nilV)) 4 (fun w F ρ hρ vs hv => ras_nil (xs := [iA a.id, iA a.most, iA a.boot, iA a.epoch, iA a.clock, iA a.seq]) (ys := [iA a.dropped, .d nilV]) (by rw [← hn]; exact hρ) hv)
  have h2 := h1.nilCell (cs' := agC a (.own n) (.own (n + 1))) 3 (fun w F ρ hρ vs hv => ras_nil (xs := [iA a.id, iA a.most, iA a.boot, iA a.epoch, iA a.clock, iA a.seq, .own n, iA a.dropped]) (ys := []) (by rw [← hn, ← hρ]; simp) hv)
  rw [List.append_assoc] at h2
  exact h2
def newA (id most boot : Int) : Ag := ⟨id, most, boot, 0, 0, 0, [], 0, []⟩
def startA (a : Ag) (b : Int) : Ag × Nat := if b < 1 ∨ 1099511627776 < b then (a, 11) else if b ≤ a.boot then (a, 22) else (newA a.id a.most b, 0)
theorem start_sat (a : Ag) (b : Int) : Sat Tryz.prog 28 [.ptr 0 0, iA b] (agH a) (iA (startA a b).2) (agH2 (startA a b).1) := by
  obtain ⟨id, most, boot, epoch, clock, seq, kept, dropped, probes⟩ := a
  unfold startA
  simp only
  by_cases h1 : b < 1 ∨ 1099511627776 < b
  · rw [if_pos h1]
    have hneg : ¬ (decide (b < 1) = false ∧ decide (b > 1099511627776) = false) := by
      rintro ⟨p1, p2⟩
      have p1 := of_decide_eq_false p1
      have p2 := of_decide_eq_false p2
      omega
    refine sat_of_vc (T := tiOf Tryz.prog) (E := E0) Tryz.func28 rfl rfl hE0 hm0 rfl ?_
    conv => whnf
    iterate 4
      repeat' (first | exact True.intro | ((first | refine Yb fun _ => ?_ | refine Yc fun _ => ?_ | refine Ya (by kernel_rfl) ?_ | refine Ya (by decide) ?_ | refine Yd (by decide) fun _ => ?_ | refine Ye (by decide) fun _ => ?_); conv => whnf) | (refine Ya (fun _ => ?_) (fun _ => ?_) <;> conv => whnf))
      all_goals try (refine Or.inl ?_; conv => whnf)
    all_goals try exact (hneg ⟨‹_›, ‹_›⟩).elim
    all_goals refine ⟨[(1, 3), (2, 4)], ?_⟩
    repeat (any_goals (first | exact True.intro | exact rfl | exact (by kernel_rfl) | refine Ya ?_ ?_))
    all_goals conv => whnf
  · rw [if_neg h1]
    have d1 : decide (b < 1) = false := decide_eq_false (by omega)
    have d2 : decide (b > 1099511627776) = false := decide_eq_false (by omega)
    by_cases h2 : b ≤ boot
    · rw [if_pos h2]
      have d3 : decide (b ≤ boot) = true := decide_eq_true h2
      refine sat_of_vc (T := tiOf Tryz.prog) (E := E0) Tryz.func28 rfl rfl hE0 hm0 rfl ?_
      conv => whnf
      iterate 4
        repeat' (first | exact True.intro | ((first | refine Yb fun _ => ?_ | refine Yc fun _ => ?_ | refine Ya (by kernel_rfl) ?_ | refine Ya (by decide) ?_ | refine Yd (by decide) fun _ => ?_ | refine Ye (by decide) fun _ => ?_); conv => whnf) | (refine Ya (fun _ => ?_) (fun _ => ?_) <;> conv => whnf))
        all_goals try (refine Or.inl ?_; conv => whnf)
      all_goals try exact (bnl ‹_› d1).elim
      all_goals try exact (bnl ‹_› d2).elim
      all_goals try exact (bnl d3 ‹_›).elim
      all_goals refine ⟨[(1, 3), (2, 4)], ?_⟩
      repeat (any_goals (first | exact True.intro | exact rfl | exact (by kernel_rfl) | refine Ya ?_ ?_))
      all_goals conv => whnf
    · rw [if_neg h2]
      have d3 : decide (b ≤ boot) = false := decide_eq_false h2
      refine Sat.agNil (newA id most b) (T := [.dead, .dead]) ?_ 3 rfl
      refine sat_of_vc (T := tiOf Tryz.prog) (E := E0) Tryz.func28 rfl rfl hE0 hm0 rfl ?_
      conv => whnf
      iterate 4
        repeat' (first | exact True.intro | ((first | refine Yb fun _ => ?_ | refine Yc fun _ => ?_ | refine Ya (by kernel_rfl) ?_ | refine Ya (by decide) ?_ | refine Yd (by decide) fun _ => ?_ | refine Ye (by decide) fun _ => ?_); conv => whnf) | (refine Ya (fun _ => ?_) (fun _ => ?_) <;> conv => whnf))
        all_goals try (refine Or.inl ?_; conv => whnf)
      all_goals try exact (bnl ‹_› d1).elim
      all_goals try exact (bnl ‹_› d2).elim
      all_goals try exact (bnl ‹_› d3).elim
      all_goals refine ⟨[], ?_⟩
      repeat (any_goals (first | exact True.intro | exact rfl | exact (by kernel_rfl) | refine Ya ?_ ?_))
      all_goals conv => whnf
theorem agNew_no (id most : Int) (h : id < 0 ∨ 64 ≤ id ∨ most < 1 ∨ 1024 < most) : Sat Tryz.prog 10 [iA id, iA most] [] (.tup [.d (.v (.pointer none)), iA 11]) [] := by
  have hneg : ¬ (decide (id < 0) = false ∧ decide (id ≥ 64) = false ∧ decide (most < 1) = false ∧ decide (most > 1024) = false) := by
    rintro ⟨p1, p2, p3, p4⟩
    have p1 := of_decide_eq_false p1
    have p2 := of_decide_eq_false p2
    have p3 := of_decide_eq_false p3
    have p4 := of_decide_eq_false p4
    omega
  refine sat_of_vc (T := tiOf Tryz.prog) (E := E0) Tryz.func10 rfl rfl hE0 hm0 rfl ?_
  conv => whnf
  iterate 4
    repeat' (first | exact True.intro | ((first | refine Yb fun _ => ?_ | refine Yc fun _ => ?_ | refine Ya (by kernel_rfl) ?_ | refine Ya (by decide) ?_ | refine Yd (by decide) fun _ => ?_ | refine Ye (by decide) fun _ => ?_); conv => whnf) | (refine Ya (fun _ => ?_) (fun _ => ?_) <;> conv => whnf))
    all_goals try (refine Or.inl ?_; conv => whnf)
  all_goals try exact (hneg ⟨‹_›, ‹_›, ‹_›, ‹_›⟩).elim
  all_goals refine ⟨[], ?_⟩
  repeat (any_goals (first | exact True.intro | exact rfl | exact (by kernel_rfl) | refine Ya ?_ ?_))
  all_goals conv => whnf
theorem agNew_ok (id most : Int) (h : ¬ (id < 0 ∨ 64 ≤ id ∨ most < 1 ∨ 1024 < most)) : Sat Tryz.prog 10 [iA id, iA most] [] (.tup [.ptr 0 0, iA 0]) (agH (newA id most 0)) := by
  have d1 : decide (id < 0) = false := decide_eq_false (by omega)
  have d2 : decide (id ≥ 64) = false := decide_eq_false (by omega)
  have d3 : decide (most < 1) = false := decide_eq_false (by omega)
  have d4 : decide (most > 1024) = false := decide_eq_false (by omega)
  refine Sat.agNil (newA id most 0) (T := []) ?_ 1 rfl
  refine sat_of_vc (T := tiOf Tryz.prog) (E := E0) Tryz.func10 rfl rfl hE0 hm0 rfl ?_
  conv => whnf
  iterate 4
    repeat' (first | exact True.intro | ((first | refine Yb fun _ => ?_ | refine Yc fun _ => ?_ | refine Ya (by kernel_rfl) ?_ | refine Ya (by decide) ?_ | refine Yd (by decide) fun _ => ?_ | refine Ye (by decide) fun _ => ?_); conv => whnf) | (refine Ya (fun _ => ?_) (fun _ => ?_) <;> conv => whnf))
    all_goals try (refine Or.inl ?_; conv => whnf)
  all_goals try exact (bnl ‹_› d1).elim
  all_goals try exact (bnl ‹_› d2).elim
  all_goals try exact (bnl ‹_› d3).elim
  all_goals try exact (bnl ‹_› d4).elim
  all_goals refine ⟨[], ?_⟩
  repeat (any_goals (first | exact True.intro | exact rfl | exact (by kernel_rfl) | refine Ya ?_ ?_))
  all_goals conv => whnf
theorem labR_len {l : List Lab} : ∀ r ∈ l.map labR, r.length = 2 := fun r hr => by
  obtain ⟨x, _, rfl⟩ := List.mem_map.1 hr; rfl
theorem cloneD_calls (l : List Lab) (hn : l.length ≤ 1000) (A : Option Addr) (c : Nat) (w : World) (hr : Rd w w.heap.size 2 A l.length (lcells l)) :
    Calls Tryz.prog 80 #[.slice A l.length c] w fun e w' => ∃ v, e = .returned v ∧ Ow w' w.heap.size 86 2 v l.length (lcells l) ∧ Below w.heap.size w w' := by
  rcases Nat.eq_zero_or_pos l.length with h0 | h0
  · have : l = [] := List.eq_nil_of_length_eq_zero h0
    subst this
    exact (cloneL0_any A c w).mono fun e w' ⟨v, h1, h2, h3, _⟩ => ⟨v, h1, h2, h3⟩
  · exact cloneL_any A _ c l w hr hn
theorem cloneD_sat (l : List Lab) (hn : l.length ≤ 1000) : Sat Tryz.prog 80 [.d (.sl 2 (l.map labR))] [] (.d (.sl 2 (l.map labR))) [] := by
  intro F ρ w vals En hv
  obtain ⟨v, rfl, hv'⟩ := hv.one_out
  cases hv' with | d hv =>
  obtain ⟨A, c, rfl, h1, h2, hr⟩ := hv.sl_rd En.fb (flat_map labR_flat l)
  rw [List.length_map] at hr ⊢
  refine (cloneD_calls l hn A c w hr).mono ?_
  rintro e w' ⟨v, rfl, how, hb⟩
  obtain ⟨F1, ρ1, S, K, E, R⟩ := data_ret En (flat_map labR_flat l) labR_len (by rw [List.length_map]; exact how) hb
  exact ⟨_, rfl, F1, ρ1, S, K, E, .d R⟩
theorem cloneO_sat (l : List Lab) (hn : l.length ≤ 1000) : Sat Tryz.prog 80 [.own 0] [.sl 2 (l.map labR)] (.d (.sl 2 (l.map labR))) [.sl 2 (l.map labR)] := by
  intro F ρ w vals En hv
  obtain ⟨v, rfl, hv'⟩ := hv.one_out
  cases hv' with | own R =>
  obtain ⟨hh, e1, ⟨vs, how, hra, hs1⟩, e3⟩ := En.rep 0 _ rfl rfl
  rw [R] at e1; injection e1 with e1; subst e1
  obtain rfl := (flat_map labR_flat l).eq hra
  obtain ⟨A', c', he, g1, g2, hrd⟩ := how.form
  rw [he]
  rw [List.length_map] at g1 hrd ⊢
  refine (cloneD_calls l hn A' c' w hrd).mono ?_
  rintro x w' ⟨v, rfl, how, hb⟩
  obtain ⟨F1, S, E, R1⟩ := data_retG En (flat_map labR_flat l) labR_len (by rw [List.length_map]; exact how) hb
  exact ⟨_, rfl, F1, ρ, S, Keep.refl _, E, .d R1⟩
theorem copied_sat (x : Evt) (hn : x.2.2.2.length ≤ 1000) : Sat Tryz.prog 44 [.d (.agg (evR x))] [] (.d (.agg (evR x))) [] := by
  have c1 := cloneD_sat x.2.2.2 hn
  refine sat_of_vc (T := tiOf Tryz.prog) (E := E0) Tryz.func44 rfl rfl hE0 hm0 rfl ?_
  conv => whnf
  iterate 4
    repeat' (first | exact True.intro | ((first | refine Yb fun _ => ?_ | refine Yc fun _ => ?_ | refine Ya (by kernel_rfl) ?_ | refine Ya (by decide) ?_ | refine Yd (by decide) fun _ => ?_ | refine Ye (by decide) fun _ => ?_ | refine ⟨_, _, c1.pu rfl rfl, ?_⟩); conv => whnf) | (refine Ya (fun _ => ?_) (fun _ => ?_) <;> conv => whnf))
    all_goals try (refine Or.inl ?_; conv => whnf)
  all_goals refine ⟨[], ?_⟩
  repeat (any_goals (first | exact True.intro | exact rfl | exact (by kernel_rfl) | refine Ya ?_ ?_))
  all_goals conv => whnf
theorem copiedO_sat (x : Evt) (hn : x.2.2.2.length ≤ 1000) : Sat Tryz.prog 44 [.agg [iA x.1, iA x.2.1, .d (tD x.2.2.1), .own 0]] [.sl 2 (x.2.2.2.map labR)] (.d (.agg (evR x))) [.sl 2 (x.2.2.2.map labR)] := by
  have c1 := cloneO_sat x.2.2.2 hn
  refine sat_of_vc (T := tiOf Tryz.prog) (E := E0) Tryz.func44 rfl rfl hE0 hm0 rfl ?_
  conv => whnf
  iterate 4
    repeat' (first | exact True.intro | ((first | refine Yb fun _ => ?_ | refine Yc fun _ => ?_ | refine Ya (by kernel_rfl) ?_ | refine Ya (by decide) ?_ | refine Yd (by decide) fun _ => ?_ | refine Ye (by decide) fun _ => ?_ | refine ⟨_, _, c1.at1 0 rfl rfl rfl, ?_⟩); conv => whnf) | (refine Ya (fun _ => ?_) (fun _ => ?_) <;> conv => whnf))
    all_goals try (refine Or.inl ?_; conv => whnf)
  all_goals refine ⟨[], ?_⟩
  repeat (any_goals (first | exact True.intro | exact rfl | exact (by kernel_rfl) | refine Ya ?_ ?_))
  all_goals conv => whnf
def measureA (a0 : Ag) (r v : Int) (s : Ser) : Ag × Int × Nat :=
  let a := (observeA a0 r).1
  if (observeA a0 r).2 ≠ 0 then (a, -1, (observeA a0 r).2)
  else if a.epoch = 0 then (a, -1, 21)
  else if rightB s = false then (a, -1, 10)
  else if 1099511627775 ≤ a.seq then (a, -1, 17)
  else if a.most ≤ a.kept.length then ({ a with dropped := IntKind.i64.wrap (a.dropped + 1) }, -1, 20)
  else ({ a with kept := a.kept ++ [(a.clock, v, s)], seq := a.seq + 1 }, a.seq, 0)
theorem observeA_seq (a : Ag) (r : Int) : (observeA a r).1.seq = a.seq ∧ (observeA a r).1.kept = a.kept := by
  unfold observeA
  split
  · exact ⟨rfl, rfl⟩
  · split <;> exact ⟨rfl, rfl⟩
set_option maxHeartbeats 8000000 in
theorem measure_sat (a0 : Ag) (r v : Int) (s : Ser) (hs : 0 ≤ a0.seq) (hk : a0.kept.length ≤ 100000) : Sat Tryz.prog 32 [.ptr 0 0, iA r, iA v, .d (serD s)] (agH a0) (.tup [iA (measureA a0 r v s).2.1, iA (measureA a0 r v s).2.2]) (agH2 (measureA a0 r v s).1) := by
  have o1 := observe_sat a0 r
  obtain ⟨q1, q2⟩ := observeA_seq a0 r
  have r1 := sRight_sat s
  have hrl : rightB s = true → s.2.length ≤ 8 := fun h => (right_out h).2.1
  rw [← q1] at hs
  rw [← q2] at hk
  unfold measureA
  generalize observeA a0 r = A at *
  obtain ⟨a, e⟩ := A
  simp only at o1 hs hk ⊢
  by_cases he : e = 0
  case neg =>
    rw [if_pos he]
    have d1 := ne0 he
    refine sat_of_vc (T := tiOf Tryz.prog) (E := E0) Tryz.func32 rfl rfl hE0 hm0 rfl ?_
    conv => whnf
    iterate 4
      repeat' (first | exact True.intro | ((first | refine Yb fun _ => ?_ | refine Yc fun _ => ?_ | refine Ya (by kernel_rfl) ?_ | refine Ya (by decide) ?_ | refine Yd (by decide) fun _ => ?_ | refine Ye (by decide) fun _ => ?_ | refine ⟨_, _, o1.at3 0 1 2 rfl rfl rfl rfl rfl rfl, ?_⟩); conv => whnf) | (refine Ya (fun _ => ?_) (fun _ => ?_) <;> conv => whnf))
      all_goals try (refine Or.inl ?_; conv => whnf)
    all_goals try exact (bnl d1 ‹_›).elim
    all_goals refine ⟨[(1, 4), (2, 5), (3, 4), (4, 5)], ?_⟩
    repeat (any_goals (first | exact True.intro | exact rfl | exact (by kernel_rfl) | refine Ya ?_ ?_))
    all_goals conv => whnf
  subst he
  rw [if_neg (fun h => h rfl)]
  by_cases h1 : a.epoch = 0
  · rw [if_pos h1]
    have d1 : (a.epoch == 0) = true := by rw [beq_iff_eq]; exact h1
    refine sat_of_vc (T := tiOf Tryz.prog) (E := E0) Tryz.func32 rfl rfl hE0 hm0 rfl ?_
    conv => whnf
    iterate 4
      repeat' (first | exact True.intro | ((first | refine Yb fun _ => ?_ | refine Yc fun _ => ?_ | refine Ya (by kernel_rfl) ?_ | refine Ya (by decide) ?_ | refine Yd (by decide) fun _ => ?_ | refine Ye (by decide) fun _ => ?_ | refine ⟨_, _, o1.at3 0 1 2 rfl rfl rfl rfl rfl rfl, ?_⟩); conv => whnf) | (refine Ya (fun _ => ?_) (fun _ => ?_) <;> conv => whnf))
      all_goals try (refine Or.inl ?_; conv => whnf)
    all_goals try exact (bnl d1 ‹_›).elim
    all_goals refine ⟨[(1, 4), (2, 5), (3, 4), (4, 5)], ?_⟩
    repeat (any_goals (first | exact True.intro | exact rfl | exact (by kernel_rfl) | refine Ya ?_ ?_))
    all_goals conv => whnf
  rw [if_neg h1]
  have d1 : (a.epoch == 0) = false := by rw [beq_eq_false_iff_ne]; exact h1
  cases h2 : rightB s with
  | false =>
    rw [if_pos rfl]
    rw [h2] at r1
    refine sat_of_vc (T := tiOf Tryz.prog) (E := E0) Tryz.func32 rfl rfl hE0 hm0 rfl ?_
    conv => whnf
    iterate 4
      repeat' (first | exact True.intro | ((first | refine Yb fun _ => ?_ | refine Yc fun _ => ?_ | refine Ya (by kernel_rfl) ?_ | refine Ya (by decide) ?_ | refine Yd (by decide) fun _ => ?_ | refine Ye (by decide) fun _ => ?_ | refine ⟨_, _, o1.at3 0 1 2 rfl rfl rfl rfl rfl rfl, ?_⟩ | refine ⟨_, _, r1.pu rfl rfl, ?_⟩); conv => whnf) | (refine Ya (fun _ => ?_) (fun _ => ?_) <;> conv => whnf))
      all_goals try (refine Or.inl ?_; conv => whnf)
    all_goals try exact (bnl ‹_› d1).elim
    all_goals refine ⟨[(1, 4), (2, 5), (3, 4), (4, 5)], ?_⟩
    repeat (any_goals (first | exact True.intro | exact rfl | exact (by kernel_rfl) | refine Ya ?_ ?_))
    all_goals conv => whnf
  | true =>
  rw [if_neg (by simp)]
  rw [h2] at r1
  by_cases h3 : 1099511627775 ≤ a.seq
  · rw [if_pos h3]
    have d3 : decide (a.seq ≥ 1099511627775) = true := decide_eq_true h3
    refine sat_of_vc (T := tiOf Tryz.prog) (E := E0) Tryz.func32 rfl rfl hE0 hm0 rfl ?_
    conv => whnf
    iterate 5
      repeat' (first | exact True.intro | ((first | refine Yb fun _ => ?_ | refine Yc fun _ => ?_ | refine Ya (by kernel_rfl) ?_ | refine Ya (by decide) ?_ | refine Yd (by decide) fun _ => ?_ | refine Ye (by decide) fun _ => ?_ | refine ⟨_, _, o1.at3 0 1 2 rfl rfl rfl rfl rfl rfl, ?_⟩ | refine ⟨_, _, r1.pu rfl rfl, ?_⟩); conv => whnf) | (refine Ya (fun _ => ?_) (fun _ => ?_) <;> conv => whnf))
      all_goals try (refine Or.inl ?_; conv => whnf)
    all_goals try exact (bnl ‹_› d1).elim
    all_goals try exact (bnl d3 ‹_›).elim
    all_goals refine ⟨[(1, 4), (2, 5), (3, 4), (4, 5)], ?_⟩
    repeat (any_goals (first | exact True.intro | exact rfl | exact (by kernel_rfl) | refine Ya ?_ ?_))
    all_goals conv => whnf
  rw [if_neg h3]
  have d3 : decide (a.seq ≥ 1099511627775) = false := decide_eq_false h3
  have hl : (a.kept.map evR).length = a.kept.length := List.length_map _
  by_cases h4 : a.most ≤ a.kept.length
  · rw [if_pos h4]
    have d4 : decide (((a.kept.map evR).length : Int) ≥ a.most) = true := decide_eq_true (by rw [hl]; exact h4)
    refine sat_of_vc (T := tiOf Tryz.prog) (E := E0) Tryz.func32 rfl rfl hE0 hm0 rfl ?_
    conv => whnf
    iterate 5
      repeat' (first | exact True.intro | ((first | refine Yb fun _ => ?_ | refine Yc fun _ => ?_ | refine Ya (by kernel_rfl) ?_ | refine Ya (by decide) ?_ | refine Yd (by decide) fun _ => ?_ | refine Ye (by decide) fun _ => ?_ | refine ⟨_, _, o1.at3 0 1 2 rfl rfl rfl rfl rfl rfl, ?_⟩ | refine ⟨_, _, r1.pu rfl rfl, ?_⟩); conv => whnf) | (refine Ya (fun _ => ?_) (fun _ => ?_) <;> conv => whnf))
      all_goals try (refine Or.inl ?_; conv => whnf)
    repeat' (first | exact True.intro | ((first | refine Ya (fun _ => ?_) (fun h => (bnl d4 h).elim) | refine Yb fun _ => ?_ | refine Yc fun _ => ?_ | refine Ya (by kernel_rfl) ?_ | refine Ya (by decide) ?_ | refine Yd (by decide) fun _ => ?_ | refine Ye (by decide) fun _ => ?_); conv => whnf) | (refine Ya (fun _ => ?_) (fun _ => ?_) <;> conv => whnf))
    iterate 3
      repeat' (first | exact True.intro | ((first | refine Yb fun _ => ?_ | refine Yc fun _ => ?_ | refine Ya (by kernel_rfl) ?_ | refine Ya (by decide) ?_ | refine Yd (by decide) fun _ => ?_ | refine Ye (by decide) fun _ => ?_); conv => whnf) | (refine Ya (fun _ => ?_) (fun _ => ?_) <;> conv => whnf))
      all_goals try (refine Or.inl ?_; conv => whnf)
    all_goals try exact (bnl ‹_› d1).elim
    all_goals try exact (bnl ‹_› d3).elim
    all_goals try exact (bnl d4 ‹_›).elim
    all_goals refine ⟨[(1, 4), (2, 5), (3, 4), (4, 5)], ?_⟩
    repeat (any_goals (first | exact True.intro | exact rfl | exact (by kernel_rfl) | refine Ya ?_ ?_))
    all_goals conv => whnf
  rw [if_neg h4]
  have d4 : decide (((a.kept.map evR).length : Int) ≥ a.most) = false := decide_eq_false (by rw [hl]; exact h4)
  have c1 := copied_sat (a.clock, v, s) (by have := hrl h2; show s.2.length ≤ _; omega)
  have w1 : IntKind.i64.wrap (a.seq + 1) = a.seq + 1 := wi (by omega) (by omega)
  have w2 : IntKind.i64.wrap (a.seq + 1 - 1) = a.seq := by rw [show a.seq + 1 - 1 = a.seq by omega]; exact wi (by omega) (by omega)
  refine sat_of_vc (T := tiOf Tryz.prog) (E := E0) Tryz.func32 rfl rfl hE0 hm0 rfl ?_
  conv => whnf
  iterate 6
    repeat' (first | exact True.intro | ((first | refine Yb fun _ => ?_ | refine Yc fun _ => ?_ | refine Ya (by kernel_rfl) ?_ | refine Ya (by decide) ?_ | refine Yd (by decide) fun _ => ?_ | refine Ye (by decide) fun _ => ?_ | refine ⟨_, _, o1.at3 0 1 2 rfl rfl rfl rfl rfl rfl, ?_⟩ | refine ⟨_, _, r1.pu rfl rfl, ?_⟩ | refine ⟨_, _, c1.pu rfl rfl, ?_⟩ | refine ⟨_, _, ap 4 56 (by kernel_rfl) rfl rfl (by simp; omega), ?_⟩); conv => whnf) | (refine Ya (fun _ => ?_) (fun _ => ?_) <;> conv => whnf))
    all_goals try (refine Or.inl ?_; conv => whnf)
  all_goals try exact (bnl ‹_› d1).elim
  all_goals try exact (bnl ‹_› d3).elim
  all_goals try exact (bnl ‹_› d4).elim
  all_goals refine ⟨[(2, 6), (3, 5), (4, 6)], ?_⟩
  repeat (any_goals (first | exact True.intro | exact rfl | exact (by kernel_rfl) | refine Ya ?_ ?_))
  all_goals conv => whnf
  · exact congrArg (fun z => iA z) (by rw [w1]; exact w2)
  · exact congrArg (fun z => iA z) w1
  · exact congrArg (AObj.sl 4) (by rw [List.map_append]; rfl)
end Go.Proofs.YtfbfpnfgabamfaaGreat
namespace Go.Proofs.YtfbfpnfgabamfaaGreat
set_option linter.unusedSimpArgs false
set_option linter.unusedVariables false
open Go.RowKit
section
variable {P : Program} {w w' : World} {F F' : Nat → Prop} {ρ ρ' : Nat → Option Value} {H : Hp} {L : List AObj} {ty n t s b i lo hi k j mx : Nat} {rows : List (List D)} {x a1 a2 a3 sx xx : Operand} {kl kh km : IntKind}
def pcP (s lo hi : Nat) (h v : Value) : Prop := ∃ A m c, h = .slice A m c ∧ lo ≤ hi ∧ hi ≤ c ∧ v = .slice (if c = lo then A else A.map (·.add (lo * s))) (hi - lo) (c - lo)
theorem pc_one {s lo hi : Nat} : OneP (pcP s lo hi) := ⟨fun h v ⟨A, m, c, _, _, _, e⟩ => by subst e; exact ⟨rfl, rfl⟩⟩
theorem run_pc {s : Nat} (hk : (tiOf P t).kind = .sli) (hs : (tiOf P t).esize = s) (hp : 0 < s) {A : Option Addr} {m c : Nat} (vlo vhi : Option Value) (hlo : (vlo = none ∧ lo = 0) ∨ vlo = some (.int kl lo)) (hhi : (vhi = none ∧ hi = m) ∨ vhi = some (.int kh hi)) (h1 : lo ≤ hi) (h2 : hi ≤ c) :
    (Instr.slice t (.slice A m c) vlo vhi none).run P w = .ok (.slice (if c = lo then A else A.map (·.add (lo * s))) (hi - lo) (c - lo)) w := by
  obtain ⟨g1, g2, _⟩ := ti_sli hk
  rw [hs] at g2
  obtain ⟨i, g3, g4⟩ := info_of_cells g2 hp
  have a1 : ((lo : Int) ≤ (hi : Int)) := by omega
  have a2 : ((hi : Int) ≤ (c : Int)) := by omega
  rcases hlo with ⟨rfl, rfl⟩ | rfl <;> rcases hhi with ⟨rfl, rfl⟩ | rfl
  · simp [Instr.slice, run_underlying g1, Instr.sliceBounds, sizeOf, typeInfo, g3, g4]
  · simp [Instr.slice, run_underlying g1, Instr.sliceBounds, Instr.sliceBound, asIntOf, sizeOf, typeInfo, g3, g4, show hi ≤ c by omega]
  · simp [Instr.slice, run_underlying g1, Instr.sliceBounds, Instr.sliceBound, asIntOf, sizeOf, typeInfo, g3, g4, h1]
  · simp [Instr.slice, run_underlying g1, Instr.sliceBounds, Instr.sliceBound, asIntOf, sizeOf, typeInfo, g3, g4, h1, show hi ≤ c by omega]
theorem run_pc3 {s : Nat} (hk : (tiOf P t).kind = .sli) (hs : (tiOf P t).esize = s) (hp : 0 < s) {A : Option Addr} {m c : Nat} (h1 : lo ≤ hi) (h2 : hi ≤ mx) (h3 : mx ≤ c) :
    ∃ v, (Instr.slice t (.slice A m c) (some (.int kl lo)) (some (.int kh hi)) (some (.int km mx))).run P w = .ok v w := by
  obtain ⟨g1, g2, _⟩ := ti_sli hk
  rw [hs] at g2
  obtain ⟨i, g3, g4⟩ := info_of_cells g2 hp
  refine ⟨.slice (if mx = lo then A else A.map (·.add (lo * s))) (hi - lo) (mx - lo), ?_⟩
  simp [Instr.slice, run_underlying g1, Instr.sliceBounds, Instr.sliceBound, asIntOf, sizeOf, typeInfo, g3, g4, h1, h2, h3]
theorem Env.ownAt (En : Env F ρ H w) (hi : H i = some (.sl s rows)) {v : Value} (hv : RA w F ρ (.own i) v) : ∃ A c vs, v = .slice A rows.length c ∧ ρ i = some v ∧ rows.length ≤ c ∧ Ow w 0 0 s (.slice A rows.length c) rows.length vs ∧ RDs w F rows.flatten vs ∧ ∀ r ∈ rows, r.length = s := by
  cases hv with | own hv =>
    rename_i A m c
    obtain ⟨hh, e1, ⟨vs, how, hra, hs1⟩, e3⟩ := En.rep i _ hi rfl
    rw [hv] at e1; injection e1 with e1; subst e1
    obtain ⟨A', c', he, g1, g2, hrd⟩ := how.form
    injection he with q1 q2 q3
    subst q1 q2 q3
    exact ⟨A, c, vs, rfl, hv, g1, how, hra, hs1⟩
theorem pc3 (s b : Nat) (h : slB P t s b = true) (hi' : L[i]? = some (.sl s rows)) (h1 : lo ≤ hi) (h2 : hi ≤ mx) (h3 : mx ≤ rows.length) : Does P (.slice t x (some a1) (some a2) (some a3)) ty L n [.own i, .d (.v (.int kl lo)), .d (.v (.int kh hi)), .d (.v (.int km mx))] ⟨[i], [], []⟩ .any := by
  obtain ⟨g1, g2, g3, _⟩ := slB_out h
  intro o H F ρ w ev ho ht En hrs hn hx
  have hi0 : H i = some (.sl s rows) := by rw [hrs i (by simp)]; exact hi'
  have hops : (Op.operands (.slice t x (some a1) (some a2) (some a3))).toList = [x, a1, a2, a3] := by simp [Op.operands]
  rw [hops] at hx
  cases hx with | cons hv hx => cases hx with | cons h4 hx => cases hx with | cons h5 hx => cases hx with | cons h6 hx =>
  obtain ⟨A, c, vs, e, _, hlc, _⟩ := En.ownAt hi0 hv
  obtain ⟨v, hrun⟩ := run_pc3 (P := P) (w := w) (kl := kl) (kh := kh) (km := km) (A := A) (m := rows.length) (c := c) g1 g2 g3 h1 h2 (Nat.le_trans h3 hlc)
  have hr : (execOp ev o).run P w = .ok (.value v) w := by
    simp [execOp, ho, e, h4.v_out, h5.v_out, h6.v_out, hrun, Instr.sliceAt, run_underlying (ti_sli g1).1]
  rw [hr]
  exact Post.same En (.any v)
theorem does_pcv (h : slB P t s b = true) {vlo vhi : Option Operand} (hi' : L[i]? = some (.sl s rows)) {xs : List AV} {c0 : Nat} (hx : ∀ (F : Nat → Prop) (ρ : Nat → Option Value) (w : World) (ev : Operand → Value) (H : Hp), Env F ρ H w → H i = some (.sl s rows) → RAs w F ρ xs ((Op.slice t x vlo vhi none).operands.toList.map ev) →
      ∃ A c hh, ev x = .slice A c0 c ∧ ρ i = some hh ∧ (∃ m, hh = .slice A m c) ∧ ((vlo.map ev = none ∧ lo = 0) ∨ vlo.map ev = some (.int kl lo)) ∧ ((vhi.map ev = none ∧ hi = c0) ∨ vhi.map ev = some (.int kh hi)) ∧ lo ≤ hi ∧ hi ≤ c) :
    Does P (.slice t x vlo vhi none) ty L n xs ⟨[i], [], []⟩ (.rel i (pcP s lo hi)) := by
  obtain ⟨g1, g2, g3, _⟩ := slB_out h
  intro o H F ρ w ev ho ht En hrs hn hxs
  have hi0 : H i = some (.sl s rows) := by rw [hrs i (by simp)]; exact hi'
  obtain ⟨A, c, hh, e1, e2, ⟨m, e3⟩, e4, e5, e6, e7⟩ := hx F ρ w ev H En hi0 hxs
  have hrun := run_pc (P := P) (w := w) (kl := kl) (kh := kh) (A := A) (m := c0) (c := c) g1 g2 g3 (vlo.map ev) (vhi.map ev) e4 e5 e6 e7
  have hr : (execOp ev o).run P w = .ok (.value (.slice (if c = lo then A else A.map (·.add (lo * s))) (hi - lo) (c - lo))) w := by
    simp [execOp, ho, e1, hrun, Instr.sliceAt, run_underlying (ti_sli g1).1]
  rw [hr]
  exact Post.same En (.rel e2 ⟨A, m, c, e3, e6, e7, rfl⟩)
theorem pcFrom (s b : Nat) (h : slB P t s b = true) (hi' : L[i]? = some (.sl s rows)) (h1 : lo ≤ rows.length) : Does P (.slice t x (some a1) none none) ty L n [.own i, .d (.v (.int kl lo))] ⟨[i], [], []⟩ (.rel i (pcP s lo rows.length)) :=
  does_pcv (kl := kl) (kh := .i64) (c0 := rows.length) h hi' fun F ρ w ev H En hi0 hx => by
    obtain ⟨v, u1, e', hv, hu1⟩ := hx.two_out
    simp [Op.operands] at e'
    obtain ⟨A, c, vs, e, e2, hlc, _⟩ := En.ownAt hi0 hv
    exact ⟨A, c, v, by rw [e'.1, e], e2, ⟨_, e⟩, .inr (by rw [Option.map_some, e'.2, hu1.v_out]), .inl ⟨rfl, rfl⟩, h1, hlc⟩
theorem pcUpto (s b : Nat) (h : slB P t s b = true) (hi' : L[i]? = some (.sl s rows)) (h1 : hi ≤ rows.length) : Does P (.slice t x none (some a1) none) ty L n [.own i, .d (.v (.int kh hi))] ⟨[i], [], []⟩ (.rel i (pcP s 0 hi)) :=
  does_pcv (kl := .i64) (kh := kh) (c0 := rows.length) h hi' fun F ρ w ev H En hi0 hx => by
    obtain ⟨v, u1, e', hv, hu1⟩ := hx.two_out
    simp [Op.operands] at e'
    obtain ⟨A, c, vs, e, e2, hlc, _⟩ := En.ownAt hi0 hv
    exact ⟨A, c, v, by rw [e'.1, e], e2, ⟨_, e⟩, .inl ⟨rfl, rfl⟩, .inr (by rw [Option.map_some, e'.2, hu1.v_out]), Nat.zero_le _, by omega⟩
theorem pcOf (s b : Nat) (h : slB P t s b = true) (hi' : L[i]? = some (.sl s rows)) (h1 : lo ≤ hi) (h2 : hi ≤ rows.length) : Does P (.slice t x (some a1) (some a2) none) ty L n [.rel i (pcP s 0 k), .d (.v (.int kl lo)), .d (.v (.int kh hi))] ⟨[i], [], []⟩ (.rel i (pcP s lo hi)) :=
  does_pcv (kl := kl) (kh := kh) (c0 := k) h hi' fun F ρ w ev H En hi0 hx => by
    obtain ⟨v, u1, u2, e', hv, hu1, hu2⟩ := hx.three_out
    simp [Op.operands] at e'
    cases hv with | rel e2 hp =>
      rename_i hh
      obtain ⟨A, m, c, rfl, q1, q2, rfl⟩ := hp
      obtain ⟨A', c', vs, e, _, hlc, _⟩ := En.ownAt hi0 (.own e2)
      injection e with r1 r2 r3
      subst r3
      refine ⟨A, c, _, ?_, e2, ⟨_, rfl⟩, .inr (by rw [Option.map_some, e'.2.1, hu1.v_out]), .inr (by rw [Option.map_some, e'.2.2, hu2.v_out]), h1, by omega⟩
      rw [e'.1]
      have hA : (if c = 0 then A else A.map (·.add (0 * s))) = A := by
        split
        · rfl
        · cases A <;> simp [Addr.add]
      rw [hA, Nat.sub_zero, Nat.sub_zero]
theorem pcLen (s b : Nat) (h : slB P t s b = true) : Does P (.call { callee := .builtin .len, args := #[x], argTypes := #[t] }) ty L n [.rel i (pcP s lo hi)] ⟨[], [], []⟩ (.d (.v (.int .i64 ((hi - lo : Nat) : Int)))) := by
  obtain ⟨g1, g2, g3, _⟩ := slB_out h
  intro o H F ρ w ev ho ht En hrs hn hx
  have hops : (Op.operands (.call { callee := .builtin .len, args := #[x], argTypes := #[t] })).toList = [x] := by simp [Op.operands, Call.operands]
  rw [hops] at hx
  obtain ⟨v, e', hv⟩ := hx.one_out
  simp at e'
  cases hv with | rel e2 hp =>
    obtain ⟨A, m, c, rfl, q1, q2, rfl⟩ := hp
    have hr : (execOp ev o).run P w = .ok (.value (.int .i64 ((hi - lo : Nat) : Int))) w := by
      simp [execOp, ho, resolve, invoke, builtin, e', Builtin.len_, run_underlying (ti_sli g1).1, goInt]
    rw [hr]
    exact Post.same En (.d (.v _))
theorem info_sl (h : slB P t s b = true) : ∃ e i z, P.underlying t = some (.slice e) ∧ e = (tiOf P t).elem ∧ P.info? e = some i ∧ i.zero = some z ∧ i.size = s ∧ i.bytes = b ∧ z.cells.size = s ∧ (tiOf P e).zero = z.cells.toList ∧ (∀ v ∈ z.cells.toList, v.oneCell' = true) ∧ 0 < s := by
  obtain ⟨g1, g2, g3, g4, _, g5⟩ := slB_out h
  obtain ⟨i, z, e1, e2, e3, e4, e5, e6, e7, e8⟩ := ti_elem g1 (by omega) g5
  exact ⟨_, i, z, e1, rfl, e2, e3, by rw [e4, g2], by rw [e5, g4], by rw [e6, g2], e7, e8, g3⟩
theorem Env.setsAt (En : Env F ρ H w) {hh : Value} (hi : H i = some (.sl s rows)) (hρ : ρ i = some hh) {g off c q : Nat} (e : hh = .slice (some ⟨g, off, none⟩) rows.length c) {vs us : List Value} (how : Ow w 0 0 s hh rows.length vs) (hle : q + us.length ≤ vs.length) {rows' : List (List D)} (hl : rows'.length = rows.length) (hs : ∀ r ∈ rows', r.length = s) (hr : RDs w F rows'.flatten (sets vs q us)) :
    Step F ρ H w F ρ (updF H i (some (.sl s rows'))) (w.setCells g (off + q) us) ∧ Env F ρ (updF H i (some (.sl s rows'))) (w.setCells g (off + q) us) := by
  subst e
  have hnF : ¬ F g := by
    obtain ⟨h0, e0, _, hk⟩ := En.rep i _ hi rfl
    rw [hρ] at e0; injection e0 with e0; subst e0
    exact (hk g rfl).2
  refine En.upd hi rfl hρ (setCells_grown g (off + q) us w) ⟨sets vs q us, ?_, ?_, hs⟩
  · rw [hl]; exact how.sets hle
  · exact hr.mono (fun b hb => setCells_heap g _ _ w b fun e => hnF (e ▸ hb)) (fun _ h => h)
theorem own_some {hh : Value} {vs : List Value} (how : Ow w 0 0 s hh rows.length vs) (h0 : 0 < rows.length) {A : Option Addr} {m c : Nat} (e : hh = .slice A m c) : ∃ g off, A = some ⟨g, off, none⟩ ∧ m = rows.length ∧ (∀ j, j < c * s → (w.cell? ⟨g, off + j, none⟩).isSome = true ∧ w.frozen? ⟨g, off + j, none⟩ = false) ∧ (∀ j (h : j < vs.length), w.cell? ⟨g, off + j, none⟩ = some vs[j]) ∧ rows.length ≤ c := by
  obtain ⟨g, off, cap, he, _, _, hnc, _, hroom, hx⟩ := how.open_ h0
  rw [e] at he
  injection he with q1 q2 q3
  subst q1 q2 q3
  exact ⟨g, off, rfl, rfl, hroom, hx, hnc⟩
theorem pcApp (s b : Nat) (h : slB P t s b = true) (hi' : L[i]? = some (.sl s rows)) (h1 : k ≤ j) (h2 : j ≤ rows.length) (h0 : 0 < rows.length) : Does P (.call { callee := .builtin .append, args := #[sx, xx], argTypes := #[t, t] }) ty L n [.rel i (pcP s 0 k), .rel i (pcP s j rows.length)]
    ⟨[i], [(i, .sl s (rows.take k ++ rows.drop j ++ rows.drop (k + (rows.length - j))))], []⟩ (.rel i (pcP s 0 (k + (rows.length - j)))) := by
  obtain ⟨e, i0, z, u1, _, u2, u3, u4, u5, u6, u7, u8, hs0⟩ := info_sl h
  intro o H F ρ w ev ho ht En hrs hn hx
  have hops : (Op.operands (.call { callee := .builtin .append, args := #[sx, xx], argTypes := #[t, t] })).toList = [sx, xx] := by simp [Op.operands, Call.operands]
  rw [hops] at hx
  have hi0 : H i = some (.sl s rows) := by rw [hrs i (by simp)]; exact hi'
  obtain ⟨v1, v2, e', hv1, hv2⟩ := hx.two_out
  simp at e'
  cases hv1 with | rel e1 hp1 => cases hv2 with | rel e2 hp2 =>
    rename_i hh _
    rw [e1] at e2; injection e2 with e2; subst e2
    obtain ⟨hh', e3, ⟨vs, how, hra, hs1⟩, e4⟩ := En.rep i _ hi0 rfl
    rw [e1] at e3; injection e3 with e3; subst e3
    obtain ⟨A, m, c, rfl, q1, q2, rfl⟩ := hp1
    obtain ⟨A', m', c', er, q3, q4, rfl⟩ := hp2
    injection er with r1 r2 r3
    subst r1 r2 r3
    obtain ⟨g, off, rfl, rfl, hroom, hcell, hnc⟩ := own_some how h0 rfl
    have hvl : vs.length = rows.length * s := how.1
    have hA : (if c = 0 then (some ⟨g, off, none⟩ : Option Addr) else (some ⟨g, off, none⟩ : Option Addr).map (·.add (0 * s))) = some ⟨g, off, none⟩ := by
      split
      · rfl
      · simp [Addr.add]
    rw [hA, Nat.sub_zero, Nat.sub_zero] at e'
    have hjs : j * s ≤ rows.length * s := Nat.mul_le_mul_right _ h2
    have hks : k * s ≤ j * s := Nat.mul_le_mul_right _ h1
    have hcs : rows.length * s ≤ c * s := Nat.mul_le_mul_right _ hnc
    have hnl : (vs.drop (j * s)).length = (rows.length - j) * s := by rw [List.length_drop, hvl, Nat.sub_mul]
    have hvone := hra.one
    have hrun := run_append_room_cells (P := P) w t o.type e i0 u1 u2 g off k c (if c = j then ⟨g, off, none⟩ else (⟨g, off, none⟩ : Addr).add (j * s)) (rows.length - j) (c - j) (vs.drop (j * s)) (by rw [hnl, u4])
      (fun q u hu => by
        obtain ⟨hq1, hq2⟩ := List.getElem?_eq_some_iff.1 hu
        rw [hnl] at hq1
        by_cases hcj : c = j
        · have : rows.length - j = 0 := by omega
          rw [this, Nat.zero_mul] at hq1; omega
        · rw [if_neg hcj, Addr.add_lit, Addr.add_lit]
          rw [List.getElem_drop] at hq2
          have := hcell (j * s + q) (by rw [hvl]; rw [Nat.sub_mul] at hq1; omega)
          rw [hq2] at this
          rw [← this, Nat.add_assoc])
      (fun u hu => hvone u (List.mem_of_mem_drop hu)) (by omega)
      (fun q hq => by rw [hnl] at hq; rw [u4, Nat.add_assoc]; exact (hroom _ (by rw [Nat.sub_mul] at hq; omega)).1)
      (fun q hq => by rw [hnl] at hq; rw [u4, Nat.add_assoc]; exact (hroom _ (by rw [Nat.sub_mul] at hq; omega)).2)
    rw [u4] at hrun
    have hA2 : (if c = j then (some ⟨g, off, none⟩ : Option Addr) else (some ⟨g, off, none⟩ : Option Addr).map (·.add (j * s))) = some (if c = j then ⟨g, off, none⟩ else (⟨g, off, none⟩ : Addr).add (j * s)) := by split <;> rfl
    rw [hA2] at e'
    have hr : (execOp ev o).run P w = .ok (.value (.slice (some ⟨g, off, none⟩) (k + (rows.length - j)) c)) (w.setCells g (off + k * s) (vs.drop (j * s))) := by
      simp [execOp, ho, resolve, invoke, builtin, e'.1, e'.2] at hrun ⊢
      simp [hrun]
    rw [hr]
    have hsets : sets vs (k * s) (vs.drop (j * s)) = vs.take (k * s) ++ vs.drop (j * s) ++ vs.drop (k * s + (rows.length - j) * s) := by
      rw [sets_eq _ _ _ (by rw [hnl, hvl, Nat.sub_mul]; omega), hnl]
    obtain ⟨S1, E1⟩ := En.setsAt (rows' := rows.take k ++ rows.drop j ++ rows.drop (k + (rows.length - j))) hi0 e1 rfl how (q := k * s) (us := vs.drop (j * s)) (by rw [hnl, hvl, Nat.sub_mul]; omega)
      (by simp only [List.length_append, List.length_take, List.length_drop]; omega)
      (fun r hr => by
        rcases List.mem_append.1 hr with hr | hr
        · rcases List.mem_append.1 hr with hr | hr
          · exact hs1 r (List.mem_of_mem_take hr)
          · exact hs1 r (List.mem_of_mem_drop hr)
        · exact hs1 r (List.mem_of_mem_drop hr))
      (by
        rw [hsets, List.flatten_append, List.flatten_append, flat_take hs1, flat_drop hs1, flat_drop hs1, Nat.add_mul]
        exact ((hra.take _).app (hra.drop _)).app (hra.drop _))
    refine ⟨F, ρ, S1, Keep.refl _, E1, .rel e1 ⟨_, _, _, rfl, Nat.zero_le _, by omega, ?_⟩⟩
    rw [hA, Nat.sub_zero, Nat.sub_zero]
def zrow (P : Program) (t : TypeId) : List D := (tiOf P (tiOf P t).elem).zero.map .v
theorem rds_zero {us : List Value} (h : ∀ v ∈ us, v.oneCell' = true) : RDs w F (us.map .v) us := by
  induction us with
  | nil => exact .nil
  | cons u us ih => exact .cons (.v u) (h u (List.mem_cons_self ..)) (ih fun v hv => h v (List.mem_cons_of_mem _ hv))
theorem zeros_get {z : Array Value} {q : Nat} (hz : 0 < z.size) : (Builtin.zeroCells z q).toList = (List.replicate q z.toList).flatten := by
  unfold Builtin.zeroCells
  rw [Array.toList_map, Array.toList_range]
  induction q with
  | zero => simp
  | succ q ih =>
    rw [Nat.succ_mul, List.range_add, List.map_append, ih, List.replicate_succ', List.flatten_append, List.flatten_singleton]
    congr 1
    rw [List.map_map]
    apply List.ext_getElem
    · simp
    · intro j h1 h2
      simp only [List.length_map, List.length_range] at h1
      simp only [List.getElem_map, List.getElem_range, Function.comp_apply]
      rw [Nat.mul_comm, Nat.mul_add_mod, Nat.mod_eq_of_lt h1]
      simp [h1]
theorem pcClear (s b : Nat) (h : slB P t s b = true) (hi' : L[i]? = some (.sl s rows)) (h2 : hi ≤ rows.length) (h0 : 0 < rows.length) : Does P (.call { callee := .builtin .clear, args := #[x], argTypes := #[t] }) ty L n [.rel i (pcP s lo hi)]
    ⟨[i], [(i, .sl s (rows.take lo ++ List.replicate (hi - lo) (zrow P t) ++ rows.drop hi))], []⟩ (.tup []) := by
  obtain ⟨e, i0, z, u1, ue, u2, u3, u4, u5, u6, u7, u8, hs0⟩ := info_sl h
  intro o H F ρ w ev ho ht En hrs hn hx
  have hops : (Op.operands (.call { callee := .builtin .clear, args := #[x], argTypes := #[t] })).toList = [x] := by simp [Op.operands, Call.operands]
  rw [hops] at hx
  have hi0 : H i = some (.sl s rows) := by rw [hrs i (by simp)]; exact hi'
  obtain ⟨v1, e', hv1⟩ := hx.one_out
  simp at e'
  cases hv1 with | rel e1 hp1 =>
    rename_i hh
    obtain ⟨hh', e3, ⟨vs, how, hra, hs1⟩, e4⟩ := En.rep i _ hi0 rfl
    rw [e1] at e3; injection e3 with e3; subst e3
    obtain ⟨A, m, c, rfl, q1, q2, rfl⟩ := hp1
    obtain ⟨g, off, rfl, rfl, hroom, hcell, hnc⟩ := own_some how h0 rfl
    have hvl : vs.length = rows.length * s := how.1
    have hzr : (zrow P t).length = s := by unfold zrow; rw [List.length_map, ← ue, u7]; simp [u6]
    have hrows : ∀ r ∈ rows.take lo ++ List.replicate (hi - lo) (zrow P t) ++ rows.drop hi, r.length = s := fun r hr => by
      rcases List.mem_append.1 hr with hr | hr
      · rcases List.mem_append.1 hr with hr | hr
        · exact hs1 r (List.mem_of_mem_take hr)
        · rw [(List.mem_replicate.1 hr).2]; exact hzr
      · exact hs1 r (List.mem_of_mem_drop hr)
    have hlen : (rows.take lo ++ List.replicate (hi - lo) (zrow P t) ++ rows.drop hi).length = rows.length := by
      simp only [List.length_append, List.length_take, List.length_drop, List.length_replicate]; omega
    have hz0 : (zeroValue e).run P w = .ok z w := by simp [zeroValue, typeInfo, u2, u3]
    by_cases hlh : lo = hi
    · subst hlh
      have hr : (execOp ev o).run P w = .ok (.value (.tuple #[])) w := by
        rw [Nat.sub_self] at e'
        have hA2 : (if c = lo then (some ⟨g, off, none⟩ : Option Addr) else (some ⟨g, off, none⟩ : Option Addr).map (·.add (lo * s))) = some (if c = lo then ⟨g, off, none⟩ else (⟨g, off, none⟩ : Addr).add (lo * s)) := by split <;> rfl
        rw [hA2] at e'
        simp [execOp, ho, resolve, invoke, builtin, e', Builtin.clear_, run_underlying u1]
      rw [hr]
      have er : rows.take lo ++ List.replicate (lo - lo) (zrow P t) ++ rows.drop lo = rows := by simp
      rw [er]
      have hH : updF H i (some (.sl s rows)) = H := by
        funext q
        by_cases hq : q = i
        · subst hq; rw [updF_same, hi0]
        · rw [updF_ne _ _ hq]
      show Post F ρ H w (updF H i (some (.sl s rows))) _ _ _
      rw [hH]
      exact Post.same En (.tup .nil)
    · have hcl : ¬ c = lo := by omega
      rw [if_neg hcl] at e'
      have hus : (Builtin.zeroCells z.cells (hi - lo)).toList = (List.replicate (hi - lo) z.cells.toList).flatten := zeros_get (by omega)
      have hul : (List.replicate (hi - lo) z.cells.toList).flatten.length = (hi - lo) * s := by simp [List.length_flatten, u6]
      have huo : ∀ u ∈ (List.replicate (hi - lo) z.cells.toList).flatten, u.oneCell' = true := fun u hu => by
        obtain ⟨l, hl, hu⟩ := List.mem_flatten.1 hu
        rw [(List.mem_replicate.1 hl).2] at hu
        exact u8 u hu
      have hls : lo * s ≤ hi * s := Nat.mul_le_mul_right _ (by omega)
      have hhs : hi * s ≤ rows.length * s := Nat.mul_le_mul_right _ h2
      have hcs : rows.length * s ≤ c * s := Nat.mul_le_mul_right _ hnc
      generalize hU : (List.replicate (hi - lo) z.cells.toList).flatten = U at *
      have hst := run_storeCells_cells (P := P) g (off + lo * s) U 0 w
        (fun q hq => by rw [hul] at hq; rw [Nat.add_zero, Nat.add_assoc]; exact (hroom _ (by rw [Nat.sub_mul] at hq; omega)).1)
        (fun q hq => by rw [hul] at hq; rw [Nat.add_zero, Nat.add_assoc]; exact (hroom _ (by rw [Nat.sub_mul] at hq; omega)).2) huo
      rw [Nat.add_zero] at hst
      have hr : (execOp ev o).run P w = .ok (.value (.tuple #[])) (w.setCells g (off + lo * s) U) := by
        have hne : ∃ d, hi - lo = d + 1 := ⟨hi - lo - 1, by omega⟩
        obtain ⟨d, hd⟩ := hne
        rw [hd] at e' hus
        simp [execOp, ho, resolve, invoke, builtin, e', Builtin.clear_, run_underlying u1, hz0, Addr.add_lit, hus, hst]
      rw [hr]
      obtain ⟨S1, E1⟩ := En.setsAt (rows' := rows.take lo ++ List.replicate (hi - lo) (zrow P t) ++ rows.drop hi) hi0 e1 rfl how (q := lo * s) (us := U) (by rw [hul, hvl, Nat.sub_mul]; omega) hlen hrows
        (by
          rw [sets_eq _ _ _ (by rw [hul, hvl, Nat.sub_mul]; omega), hul, List.flatten_append, List.flatten_append, flat_take hs1, flat_drop hs1]
          have e1 : lo * s + (hi - lo) * s = hi * s := by rw [Nat.sub_mul]; omega
          rw [e1]
          refine ((hra.take _).app ?_).app (hra.drop _)
          have e2 : (List.replicate (hi - lo) (zrow P t)).flatten = U.map .v := by
            rw [← hU]
            unfold zrow
            rw [← ue, u7, List.map_flatten, List.map_replicate]
          rw [e2]
          exact rds_zero huo)
      exact ⟨F, ρ, S1, Keep.refl _, E1, .tup .nil⟩
theorem Sat.ofPc {g : FuncId} {args : List AV} {rows' : List (List D)} (h : Sat P g args [.sl s rows] (.rel 0 (pcP s 0 k)) [.sl s rows']) (hk : k ≤ rows'.length) : Sat P g args [.sl s rows] (.own 1) [.dead, .sl s (rows'.take k)] := by
  intro F ρ w vals En hv
  refine (h F ρ w vals En hv).mono ?_
  rintro e w' ⟨v, he, F', ρ', S, K, E', hr⟩
  cases hr with | rel e1 hp =>
    obtain ⟨A, m, c, rfl, q1, q2, rfl⟩ := hp
    have hi0 : hp [AObj.sl s rows'] 0 = some (.sl s rows') := rfl
    obtain ⟨hh, e3, ⟨vs, how, hra, hs1⟩, e4⟩ := E'.rep 0 _ hi0 rfl
    rw [e1] at e3; injection e3 with e3; subst e3
    obtain ⟨A', c', eq, g1, g2, hrd⟩ := how.form
    injection eq with r1 r2 r3
    subst r1 r2 r3
    have hA : (if c = 0 then A else A.map (·.add (0 * s))) = A := by
      split
      · rfl
      · cases A <;> simp [Addr.add]
    rw [hA, Nat.sub_zero, Nat.sub_zero] at he
    have how' : Ow w' 0 0 s (.slice A k c) k (vs.take (k * s)) := by
      cases A with
      | some a => exact how.take hk (by simp)
      | none =>
        rcases how.2 with ⟨q, q0⟩ | ⟨a, q, _⟩ | ⟨g, off, cap, q, _⟩
        · injection q with _ q1 q2
          subst q2
          have : k = 0 := by omega
          subst this
          simpa using Ow.nil w' 0 0 s
        · injection q with q; cases q
        · injection q with q; cases q
    have hn0 : hp [AObj.sl s rows'] 1 = none := rfl
    obtain ⟨S1, K1, E1⟩ := E'.swap (n := 1) (o' := .sl s (rows'.take k)) (h' := .slice A k c) hi0 rfl e1 hn0 (World.grownBy.refl w' _) (fun b hb => .inr (by
      cases A with
      | none => simp [blkOf] at hb
      | some a => simpa [blkOf] using hb)) ⟨_, by
        rw [List.length_take, Nat.min_eq_left hk]; exact how', by
        rw [flat_take hs1]; exact (hra.take _).mono (fun _ _ => rfl) (fun _ h => h), fun r hr => hs1 r (List.mem_of_mem_take hr)⟩
    have eh : updF (updF (hp [AObj.sl s rows']) 0 (some .dead)) 1 (some (.sl s (rows'.take k))) = hp [.dead, .sl s (rows'.take k)] := by
      funext q
      match q with
      | 0 => rfl
      | 1 => rfl
      | q + 2 => rfl
    rw [eh] at S1 E1
    exact ⟨_, he, F', _, S.trans S1, K.trans K1, E1, .own (updF_same _ _ _)⟩
end
end Go.Proofs.YtfbfpnfgabamfaaGreat
namespace Go.Proofs.YtfbfpnfgabamfaaGreat
set_option linter.unusedSimpArgs false
open Go.RowKit
set_option maxRecDepth 100000
set_option linter.unusedVariables false
theorem zrow_ev : zrow Tryz.prog 44 = [iD 0, iD 0, tD [], nilV] := by kernel_rfl
theorem piece_ev (R : List (List D)) (z : List D) (i j : Nat) (hij : i < j) (hj : j ≤ R.length) : (R.take i ++ R.drop j ++ R.drop (i + (R.length - j))).take (i + (R.length - j) - 0) ++ List.replicate (R.length - (i + (R.length - j) - 0)) z ++
      (R.take i ++ R.drop j ++ R.drop (i + (R.length - j))).drop R.length = R.take i ++ R.drop j ++ List.replicate (j - i) z := by
  have hd : (R.take i ++ R.drop j ++ R.drop (i + (R.length - j))).drop R.length = [] := List.drop_of_length_le (by simp only [List.length_append, List.length_take, List.length_drop]; omega)
  have ht : (R.take i ++ R.drop j ++ R.drop (i + (R.length - j))).take (i + (R.length - j) - 0) = R.take i ++ R.drop j := List.take_left' (by simp only [List.length_append, List.length_take, List.length_drop]; omega)
  rw [hd, ht, List.append_nil, show R.length - (i + (R.length - j) - 0) = j - i by omega]
set_option maxHeartbeats 2000000 in
theorem deleteE_pc (R : List (List D)) (i j : Nat) (hij : i < j) (hj : j ≤ R.length) (hn : R.length ≤ 100000) :
    Sat Tryz.prog 101 [.own 0, iA i, iA j] [.sl 4 R] (.rel 0 (pcP 4 0 (i + (R.length - j)))) [.sl 4 (R.take i ++ R.drop j ++ List.replicate (j - i) [iD 0, iD 0, tD [], nilV])] := by
  have hb : ((i : Int) == (j : Int)) = false := by rw [beq_eq_false_iff_ne]; omega
  refine sat_of_vc (T := tiOf Tryz.prog) (E := E0) Tryz.func101 rfl rfl hE0 hm0 rfl ?_
  conv => whnf
  have hl2 : (R.take i ++ R.drop j ++ R.drop (i + (R.length - j))).length = R.length := by
    simp only [List.length_append, List.length_take, List.length_drop]; omega
  iterate 4
    repeat' (first | exact True.intro | ((first | refine Yb fun _ => ?_ | refine Yc fun _ => ?_ | refine Ya (by kernel_rfl) ?_ | refine Ya (by decide) ?_ | refine Yd (by decide) fun _ => ?_ | refine Ye (by decide) fun _ => ?_ | refine ⟨_, _, pc3 4 56 (by kernel_rfl) rfl (Nat.le_of_lt hij) (show j ≤ R.length by omega) (Nat.le_refl _), ?_⟩ | refine ⟨_, _, pcUpto 4 56 (by kernel_rfl) rfl (show i ≤ R.length by omega), ?_⟩ | refine ⟨_, _, pcFrom 4 56 (by kernel_rfl) rfl (show j ≤ R.length by omega), ?_⟩ | refine ⟨_, _, pcApp 4 56 (by kernel_rfl) rfl (Nat.le_of_lt hij) (show j ≤ R.length by omega) (by omega), ?_⟩ | refine ⟨_, _, pcLen 4 56 (by kernel_rfl), ?_⟩ | refine ⟨_, _, pcOf 4 56 (lo := i + (R.length - j) - 0) (hi := R.length) (by kernel_rfl) rfl (by omega) (by rw [hl2]; omega), ?_⟩ | refine ⟨_, _, pcClear 4 56 (by kernel_rfl) rfl (by rw [hl2]; omega) (by rw [hl2]; omega), ?_⟩); conv => whnf) | (refine Ya (fun _ => ?_) (fun _ => ?_) <;> conv => whnf))
    all_goals try (refine Or.inl ?_; conv => whnf)
  all_goals try exact (bnl ‹_› hb).elim
  have hrows : (R.take i ++ R.drop j ++ R.drop (i + (R.length - j))).take (i + (R.length - j) - 0) ++ List.replicate (R.length - (i + (R.length - j) - 0)) (zrow Tryz.prog 44) ++
      (R.take i ++ R.drop j ++ R.drop (i + (R.length - j))).drop R.length = R.take i ++ R.drop j ++ List.replicate (j - i) [iD 0, iD 0, tD [], nilV] := by
    rw [zrow_ev]
    exact piece_ev R _ i j hij hj
  rw [hrows]
  all_goals refine ⟨[], ?_⟩
  repeat (any_goals (first | exact True.intro | exact rfl | exact (by kernel_rfl) | refine Ya ?_ ?_))
  all_goals conv => whnf
theorem deleteE_sat (R : List (List D)) (j : Nat) (hij : 0 < j) (hj : j ≤ R.length) (hn : R.length ≤ 100000) :
    Sat Tryz.prog 101 [.own 0, iA 0, iA j] [.sl 4 R] (.own 1) [.dead, .sl 4 (R.drop j)] := by
  have h := Sat.ofPc (deleteE_pc R 0 j hij hj hn) (by simp only [List.length_append, List.length_take, List.length_drop, List.length_replicate]; omega)
  rw [List.take_left' (by simp only [List.length_append, List.length_take, List.length_drop]; omega)] at h
  exact h
def grantA (a : Ag) (f : Fr) : Ag × Nat := if f.b ≠ a.boot then (a, 22) else if a.epoch ≠ 0 then (a, 18) else if f.e = 0 then (a, 10) else ({ a with epoch := f.e }, 0)
theorem beqI (x y : Int) : (x == y) = decide (x = y) := by rw [Bool.eq_iff_iff, beq_iff_eq, decide_eq_true_eq]
theorem bneI (x y : Int) : (x != y) = decide (x ≠ y) := by rw [Bool.eq_iff_iff, bne_iff_ne, decide_eq_true_eq]
theorem grant_sat (a : Ag) (f : Fr) : Sat Tryz.prog 62 [.ptr 0 0, .d (frD f)] (agH a) (iA (grantA a f).2) (agH (grantA a f).1) := by
  obtain ⟨id, most, boot, epoch, clock, seq, kept, dropped, probes⟩ := a
  obtain ⟨fk, fa, fe, fb, fc, fg, fs, fn, ft, fw, ev, sr, d⟩ := f
  unfold grantA
  simp only
  by_cases h1 : fb = boot
  case neg =>
    rw [if_pos h1]
    have d1 : (fb != boot) = true := by rw [bne_iff_ne]; exact h1
    refine sat_of_vc (T := tiOf Tryz.prog) (E := E0) Tryz.func62 rfl rfl hE0 hm0 rfl ?_
    conv => whnf
    iterate 4
      repeat' (first | exact True.intro | ((first | refine Yb fun _ => ?_ | refine Yc fun _ => ?_ | refine Ya (by kernel_rfl) ?_ | refine Ya (by decide) ?_ | refine Yd (by decide) fun _ => ?_ | refine Ye (by decide) fun _ => ?_); conv => whnf) | (refine Ya (fun _ => ?_) (fun _ => ?_) <;> conv => whnf))
      all_goals try (refine Or.inl ?_; conv => whnf)
    all_goals try exact (bnl d1 ‹_›).elim
    all_goals refine ⟨[], ?_⟩
    repeat (any_goals (first | exact True.intro | exact rfl | exact (by kernel_rfl) | refine Ya ?_ ?_))
    all_goals conv => whnf
  rw [if_neg (fun h => h h1)]
  have d1 : (fb != boot) = false := by rw [bneI, decide_eq_false (fun h => h h1)]
  by_cases h2 : epoch = 0
  case neg =>
    rw [if_pos h2]
    have d2 : (epoch != 0) = true := by rw [bne_iff_ne]; exact h2
    refine sat_of_vc (T := tiOf Tryz.prog) (E := E0) Tryz.func62 rfl rfl hE0 hm0 rfl ?_
    conv => whnf
    iterate 4
      repeat' (first | exact True.intro | ((first | refine Yb fun _ => ?_ | refine Yc fun _ => ?_ | refine Ya (by kernel_rfl) ?_ | refine Ya (by decide) ?_ | refine Yd (by decide) fun _ => ?_ | refine Ye (by decide) fun _ => ?_); conv => whnf) | (refine Ya (fun _ => ?_) (fun _ => ?_) <;> conv => whnf))
      all_goals try (refine Or.inl ?_; conv => whnf)
    all_goals try exact (bnl ‹_› d1).elim
    all_goals try exact (bnl d2 ‹_›).elim
    all_goals refine ⟨[], ?_⟩
    repeat (any_goals (first | exact True.intro | exact rfl | exact (by kernel_rfl) | refine Ya ?_ ?_))
    all_goals conv => whnf
  rw [if_neg (fun h => h h2)]
  have d2 : (epoch != 0) = false := by rw [bneI, decide_eq_false (fun h => h h2)]
  by_cases h3 : fe = 0
  · rw [if_pos h3]
    have d3 : (fe == 0) = true := by rw [beq_iff_eq]; exact h3
    refine sat_of_vc (T := tiOf Tryz.prog) (E := E0) Tryz.func62 rfl rfl hE0 hm0 rfl ?_
    conv => whnf
    iterate 4
      repeat' (first | exact True.intro | ((first | refine Yb fun _ => ?_ | refine Yc fun _ => ?_ | refine Ya (by kernel_rfl) ?_ | refine Ya (by decide) ?_ | refine Yd (by decide) fun _ => ?_ | refine Ye (by decide) fun _ => ?_); conv => whnf) | (refine Ya (fun _ => ?_) (fun _ => ?_) <;> conv => whnf))
      all_goals try (refine Or.inl ?_; conv => whnf)
    all_goals try exact (bnl ‹_› d1).elim
    all_goals try exact (bnl ‹_› d2).elim
    all_goals try exact (bnl d3 ‹_›).elim
    all_goals refine ⟨[], ?_⟩
    repeat (any_goals (first | exact True.intro | exact rfl | exact (by kernel_rfl) | refine Ya ?_ ?_))
    all_goals conv => whnf
  · rw [if_neg h3]
    have d3 : (fe == 0) = false := by rw [beqI, decide_eq_false h3]
    refine sat_of_vc (T := tiOf Tryz.prog) (E := E0) Tryz.func62 rfl rfl hE0 hm0 rfl ?_
    conv => whnf
    iterate 4
      repeat' (first | exact True.intro | ((first | refine Yb fun _ => ?_ | refine Yc fun _ => ?_ | refine Ya (by kernel_rfl) ?_ | refine Ya (by decide) ?_ | refine Yd (by decide) fun _ => ?_ | refine Ye (by decide) fun _ => ?_); conv => whnf) | (refine Ya (fun _ => ?_) (fun _ => ?_) <;> conv => whnf))
      all_goals try (refine Or.inl ?_; conv => whnf)
    all_goals try exact (bnl ‹_› d1).elim
    all_goals try exact (bnl ‹_› d2).elim
    all_goals try exact (bnl ‹_› d3).elim
    all_goals refine ⟨[], ?_⟩
    repeat (any_goals (first | exact True.intro | exact rfl | exact (by kernel_rfl) | refine Ya ?_ ?_))
    all_goals conv => whnf
def probeA (a : Ag) (f : Fr) : Ag × Nat := if a.epoch = 0 then (a, 21) else if 8 ≤ a.probes.length then (a, 20) else ({ a with probes := a.probes ++ [(f.b, f.c, a.clock)] }, 0)
theorem probe_sat (a : Ag) (f : Fr) : Sat Tryz.prog 63 [.ptr 0 0, .d (frD f)] (agH a) (iA (probeA a f).2) (agH2 (probeA a f).1) := by
  obtain ⟨id, most, boot, epoch, clock, seq, kept, dropped, probes⟩ := a
  obtain ⟨fk, fa, fe, fb, fc, fg, fs, fn, ft, fw, ev, sr, d⟩ := f
  have hl : (probes.map prR).length = probes.length := List.length_map _
  unfold probeA
  simp only
  by_cases h1 : epoch = 0
  · rw [if_pos h1]
    have d1 : (epoch == 0) = true := by rw [beq_iff_eq]; exact h1
    refine sat_of_vc (T := tiOf Tryz.prog) (E := E0) Tryz.func63 rfl rfl hE0 hm0 rfl ?_
    conv => whnf
    iterate 4
      repeat' (first | exact True.intro | ((first | refine Yb fun _ => ?_ | refine Yc fun _ => ?_ | refine Ya (by kernel_rfl) ?_ | refine Ya (by decide) ?_ | refine Yd (by decide) fun _ => ?_ | refine Ye (by decide) fun _ => ?_); conv => whnf) | (refine Ya (fun _ => ?_) (fun _ => ?_) <;> conv => whnf))
      all_goals try (refine Or.inl ?_; conv => whnf)
    all_goals try exact (bnl d1 ‹_›).elim
    all_goals refine ⟨[(1, 4), (2, 5), (3, 4), (4, 5)], ?_⟩
    repeat (any_goals (first | exact True.intro | exact rfl | exact (by kernel_rfl) | refine Ya ?_ ?_))
    all_goals conv => whnf
  rw [if_neg h1]
  have d1 : (epoch == 0) = false := by rw [beqI, decide_eq_false h1]
  by_cases h2 : 8 ≤ probes.length
  · rw [if_pos h2]
    have d2 : decide (((probes.map prR).length : Int) ≥ 8) = true := decide_eq_true (by rw [hl]; omega)
    refine sat_of_vc (T := tiOf Tryz.prog) (E := E0) Tryz.func63 rfl rfl hE0 hm0 rfl ?_
    conv => whnf
    iterate 4
      repeat' (first | exact True.intro | ((first | refine Yb fun _ => ?_ | refine Yc fun _ => ?_ | refine Ya (by kernel_rfl) ?_ | refine Ya (by decide) ?_ | refine Yd (by decide) fun _ => ?_ | refine Ye (by decide) fun _ => ?_); conv => whnf) | (refine Ya (fun _ => ?_) (fun _ => ?_) <;> conv => whnf))
      all_goals try (refine Or.inl ?_; conv => whnf)
    all_goals try exact (bnl ‹_› d1).elim
    all_goals try exact (bnl d2 ‹_›).elim
    all_goals refine ⟨[(1, 4), (2, 5), (3, 4), (4, 5)], ?_⟩
    repeat (any_goals (first | exact True.intro | exact rfl | exact (by kernel_rfl) | refine Ya ?_ ?_))
    all_goals conv => whnf
  · rw [if_neg h2]
    have d2 : decide (((probes.map prR).length : Int) ≥ 8) = false := decide_eq_false (by rw [hl]; omega)
    refine sat_of_vc (T := tiOf Tryz.prog) (E := E0) Tryz.func63 rfl rfl hE0 hm0 rfl ?_
    conv => whnf
    iterate 4
      repeat' (first | exact True.intro | ((first | refine Yb fun _ => ?_ | refine Yc fun _ => ?_ | refine Ya (by kernel_rfl) ?_ | refine Ya (by decide) ?_ | refine Yd (by decide) fun _ => ?_ | refine Ye (by decide) fun _ => ?_ | refine ⟨_, _, ap 3 24 (by kernel_rfl) rfl rfl (by simp; omega), ?_⟩); conv => whnf) | (refine Ya (fun _ => ?_) (fun _ => ?_) <;> conv => whnf))
      all_goals try (refine Or.inl ?_; conv => whnf)
    all_goals try exact (bnl ‹_› d1).elim
    all_goals try exact (bnl ‹_› d2).elim
    all_goals refine ⟨[(1, 6), (3, 6), (4, 5)], ?_⟩
    repeat (any_goals (first | exact True.intro | exact rfl | exact (by kernel_rfl) | refine Ya ?_ ?_))
    all_goals conv => whnf
    all_goals try exact congrArg (AObj.sl 3) (by rw [List.map_append]; rfl)
def ackA (a : Ag) (f : Fr) : Ag × Nat := if a.epoch = 0 ∨ f.e ≠ a.epoch then (a, 22) else if a.seq < f.n then (a, 11) else ({ a with kept := a.kept.drop (f.n - firstA a).toNat }, 0)
set_option maxHeartbeats 2000000 in
theorem ack_sat (a : Ag) (f : Fr) (h0 : 0 ≤ firstA a) (hs : a.seq ≤ 1099511627775) (hk : a.kept.length ≤ 100000) (hf : 0 ≤ f.n) : Sat Tryz.prog 64 [.ptr 0 0, .d (frD f)] (agH a) (iA (ackA a f).2) (agH2 (ackA a f).1) := by
  have f1 := agFirst_sat a (by unfold firstA at h0 ⊢; exact ⟨by omega, by omega⟩)
  have hfa : firstA a = a.seq - a.kept.length := rfl
  unfold ackA
  generalize firstA a = q at *
  obtain ⟨id, most, boot, epoch, clock, seq, kept, dropped, probes⟩ := a
  obtain ⟨fk, fa, fe, fb, fc, fg, fs, fn, ft, fw, ev, sr, d⟩ := f
  have hl : (kept.map evR).length = kept.length := List.length_map _
  simp only at hs hk hf hfa ⊢
  by_cases h1 : epoch = 0 ∨ fe ≠ epoch
  · rw [if_pos h1]
    have hneg : ¬ ((epoch == 0) = false ∧ (fe != epoch) = false) := by
      rintro ⟨p1, p2⟩
      rw [beqI] at p1
      rw [bneI] at p2
      have p1 := of_decide_eq_false p1
      have p2 := of_decide_eq_false p2
      exact h1.elim p1 p2
    refine sat_of_vc (T := tiOf Tryz.prog) (E := E0) Tryz.func64 rfl rfl hE0 hm0 rfl ?_
    conv => whnf
    iterate 6
      repeat' (first | exact True.intro | ((first | refine (fun (_ : True) => (hneg ⟨‹_›, ‹_›⟩).elim) ?_ | refine Yb fun _ => ?_ | refine Yc fun _ => ?_ | refine Ya (by kernel_rfl) ?_ | refine Ya (by decide) ?_ | refine Yd (by decide) fun _ => ?_ | refine Ye (by decide) fun _ => ?_ | refine ⟨_, _, f1.at3 0 1 2 rfl rfl rfl rfl rfl rfl, ?_⟩); conv => whnf) | (refine Ya (fun _ => ?_) (fun _ => ?_) <;> conv => whnf))
      all_goals try (refine Or.inl ?_; conv => whnf)
    all_goals refine ⟨[(1, 4), (2, 5), (3, 4), (4, 5)], ?_⟩
    repeat (any_goals (first | exact True.intro | exact rfl | exact (by kernel_rfl) | refine Ya ?_ ?_))
    all_goals conv => whnf
  rw [if_neg h1]
  have d1 : (epoch == 0) = false := by rw [beqI, decide_eq_false fun h => h1 (.inl h)]
  have d2 : (fe != epoch) = false := by rw [bneI, decide_eq_false fun h => h1 (.inr h)]
  by_cases h2 : seq < fn
  · rw [if_pos h2]
    have d3 : decide (fn > seq) = true := decide_eq_true h2
    refine sat_of_vc (T := tiOf Tryz.prog) (E := E0) Tryz.func64 rfl rfl hE0 hm0 rfl ?_
    conv => whnf
    iterate 6
      repeat' (first | exact True.intro | ((first | refine (fun (_ : True) => (bnl d3 ‹_›).elim) ?_ | refine Yb fun _ => ?_ | refine Yc fun _ => ?_ | refine Ya (by kernel_rfl) ?_ | refine Ya (by decide) ?_ | refine Yd (by decide) fun _ => ?_ | refine Ye (by decide) fun _ => ?_ | refine ⟨_, _, f1.at3 0 1 2 rfl rfl rfl rfl rfl rfl, ?_⟩); conv => whnf) | (refine Ya (fun _ => ?_) (fun _ => ?_) <;> conv => whnf))
      all_goals try (refine Or.inl ?_; conv => whnf)
    all_goals try exact (bnl ‹_› d1).elim
    all_goals try exact (bnl ‹_› d2).elim
    all_goals refine ⟨[(1, 4), (2, 5), (3, 4), (4, 5)], ?_⟩
    repeat (any_goals (first | exact True.intro | exact rfl | exact (by kernel_rfl) | refine Ya ?_ ?_))
    all_goals conv => whnf
  rw [if_neg h2]
  have d3 : decide (fn > seq) = false := decide_eq_false h2
  have hw : IntKind.i64.wrap (fn - q) = fn - q := wi (by omega) (by omega)
  by_cases h3 : 0 < fn - q
  · obtain ⟨k, hkk⟩ : ∃ k : Nat, fn - q = k := ⟨(fn - q).toNat, by omega⟩
    have d4 : decide (IntKind.i64.wrap (fn - q) > 0) = true := decide_eq_true (by rw [hw]; exact h3)
    have dl := deleteE_sat (kept.map evR) k (by omega) (by rw [hl]; omega) (by rw [hl]; omega)
    have hwk : (k : Int) = IntKind.i64.wrap (fn - q) := by rw [hw]; exact hkk.symm
    rw [hkk, Int.toNat_natCast]
    rw [← List.map_drop, hwk] at dl
    refine sat_of_vc (T := tiOf Tryz.prog) (E := E0) Tryz.func64 rfl rfl hE0 hm0 rfl ?_
    conv => whnf
    iterate 6
      repeat' (first | exact True.intro | ((first | refine Yb fun _ => ?_ | refine Yc fun _ => ?_ | refine Ya (by kernel_rfl) ?_ | refine Ya (by decide) ?_ | refine Yd (by decide) fun _ => ?_ | refine Ye (by decide) fun _ => ?_ | refine ⟨_, _, f1.at3 0 1 2 rfl rfl rfl rfl rfl rfl, ?_⟩ | refine ⟨_, _, dl.at1 1 rfl rfl rfl, ?_⟩); conv => whnf) | (refine Ya (fun _ => ?_) (fun _ => ?_) <;> conv => whnf))
      all_goals try (refine Or.inl ?_; conv => whnf)
    all_goals try exact (bnl ‹_› d1).elim
    all_goals try exact (bnl ‹_› d2).elim
    all_goals try exact (bnl ‹_› d3).elim
    all_goals try exact (bnl d4 ‹_›).elim
    all_goals refine ⟨[(2, 5), (3, 4), (4, 5)], ?_⟩
    repeat (any_goals (first | exact True.intro | exact rfl | exact (by kernel_rfl) | refine Ya ?_ ?_))
    all_goals conv => whnf
  · have d4 : decide (IntKind.i64.wrap (fn - q) > 0) = false := decide_eq_false (by rw [hw]; exact h3)
    have e0 : (fn - q).toNat = 0 := by omega
    rw [e0, List.drop_zero]
    refine sat_of_vc (T := tiOf Tryz.prog) (E := E0) Tryz.func64 rfl rfl hE0 hm0 rfl ?_
    conv => whnf
    iterate 6
      repeat' (first | exact True.intro | ((first | refine (fun (_ : True) => (bnl ‹_› d4).elim) ?_ | refine Yb fun _ => ?_ | refine Yc fun _ => ?_ | refine Ya (by kernel_rfl) ?_ | refine Ya (by decide) ?_ | refine Yd (by decide) fun _ => ?_ | refine Ye (by decide) fun _ => ?_ | refine ⟨_, _, f1.at3 0 1 2 rfl rfl rfl rfl rfl rfl, ?_⟩); conv => whnf) | (refine Ya (fun _ => ?_) (fun _ => ?_) <;> conv => whnf))
      all_goals try (refine Or.inl ?_; conv => whnf)
    all_goals try exact (bnl ‹_› d1).elim
    all_goals try exact (bnl ‹_› d2).elim
    all_goals try exact (bnl ‹_› d3).elim
    all_goals refine ⟨[(1, 4), (2, 5), (3, 4), (4, 5)], ?_⟩
    repeat (any_goals (first | exact True.intro | exact rfl | exact (by kernel_rfl) | refine Ya ?_ ?_))
    all_goals conv => whnf
end Go.Proofs.YtfbfpnfgabamfaaGreat
