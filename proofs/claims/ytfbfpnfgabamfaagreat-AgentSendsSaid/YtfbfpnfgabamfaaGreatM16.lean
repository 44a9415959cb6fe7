/- Parts AgS, FrBk, RnA, CrcT, RnE, RnF2, RnG0, AgU, FrW, FrY, FrZ, AgV, AgW, AgY of the proof, put together. -/
import Derived.Test.YtfbfpnfgabamfaaGreatM15
import Derived.BigQuiet
import Derived.Deep.QuietTactic
namespace Go.Proofs.YtfbfpnfgabamfaaGreat
set_option linter.unusedSimpArgs false
open Go.RowKit
set_option maxRecDepth 100000
set_option linter.unusedVariables false
set_option linter.unusedSectionVars false
abbrev agH6 (a : Ag) : List AObj := [.cells (agC a (.own 4) (.own 5)), .dead, .dead, .dead, .sl 4 (a.kept.map evR), .sl 3 (a.probes.map prR)]
theorem sameRows_nil : Sat Tryz.prog 40 [.d nilV, .d nilV] [] (bA true) [] := by
  refine sat_of_vc (T := tiOf Tryz.prog) (E := E0) Tryz.func40 rfl rfl hE0 hm0 rfl ?_
  conv => whnf
  iterate 4
    repeat' (first | exact True.intro | ((first | refine Yb fun _ => ?_ | refine Yc fun _ => ?_ | refine Ya (by kernel_rfl) ?_ | refine Ya (by decide) ?_ | refine Yd (by decide) fun _ => ?_ | refine Ye (by decide) fun _ => ?_); conv => whnf) | (refine Ya (fun _ => ?_) (fun _ => ?_) <;> conv => whnf))
    all_goals try (refine Or.inl ?_; conv => whnf)
  refine ⟨Unit, fun _ => True, fun _ => ([(5, iA 0), (1, .d nilV), (0, .d nilV)], []), fun _ => 0, ⟨(), trivial, ?_⟩, ?_⟩
  · all_goals refine ⟨[], ?_⟩
    repeat (any_goals (first | exact True.intro | exact rfl | exact (by kernel_rfl) | refine Ya ?_ ?_))
    all_goals conv => whnf
  rintro ⟨⟩ _
  conv => whnf
  iterate 4
    repeat' (first | exact True.intro | ((first | refine Yb fun _ => ?_ | refine Yc fun _ => ?_ | refine Ya (by kernel_rfl) ?_ | refine Ya (by decide) ?_ | refine Yd (by decide) fun _ => ?_ | refine Ye (by decide) fun _ => ?_); conv => whnf) | (refine Ya (fun _ => ?_) (fun _ => ?_) <;> conv => whnf))
    all_goals try (refine Or.inl ?_; conv => whnf)
  all_goals refine ⟨[], ?_⟩
  repeat (any_goals (first | exact True.intro | exact rfl | exact (by kernel_rfl) | refine Ya ?_ ?_))
  all_goals conv => whnf
theorem what_no {x k : Int} (h : x ≠ k) : (x == k) = false := by rw [beqI, decide_eq_false h]
section
variable (a : Ag) (hi : AgInv a) (c : Cl) (hc : clOk c)
include hi hc
set_option maxHeartbeats 4000000 in
theorem told_0 (h : c.what = 0) : Sat Tryz.prog 12 [.ptr 0 0, .ptr 3 0, .d (.agg (clR c))] (agH a ++ [.cells (rfC 0)]) .any (agH6 (startA a c.boot).1) := by
  have s1 := start_sat a c.boot
  have s2 := rfStart_sat c.boot
  obtain ⟨what, boot, read, val, sr, bs⟩ := c
  simp only at h s1 s2
  subst h
  refine sat_of_vc (T := tiOf Tryz.prog) (E := E0) Tryz.func12 rfl rfl hE0 hm0 rfl ?_
  conv => whnf
  iterate 5
    repeat' (first | exact True.intro | ((first | refine Yb fun _ => ?_ | refine Yc fun _ => ?_ | refine Ya (by kernel_rfl) ?_ | refine Ya (by decide) ?_ | refine Yd (by decide) fun _ => ?_ | refine Ye (by decide) fun _ => ?_ | refine ⟨_, _, s1.at3 0 1 2 rfl rfl rfl rfl rfl rfl, ?_⟩ | refine ⟨_, _, s2.at1 3 rfl rfl rfl, ?_⟩); conv => whnf) | (refine Ya (fun _ => ?_) (fun _ => ?_) <;> conv => whnf))
    all_goals try (refine Or.inl ?_; conv => whnf)
  all_goals refine ⟨[(4, 5), (5, 6)], ?_⟩
  repeat (any_goals (first | exact True.intro | exact rfl | exact (by kernel_rfl) | refine Ya ?_ ?_))
  all_goals conv => whnf
set_option maxHeartbeats 8000000 in
theorem told_1 (h : c.what = 1) : Sat Tryz.prog 12 [.ptr 0 0, .ptr 3 0, .d (.agg (clR c))] (agH a ++ [.cells (rfC 0)]) .any (agH6 (measureA a c.read c.val c.sr).1) := by
  have hq := hi.first
  have hq2 : firstA a = a.seq - (a.kept.length : Int) := rfl
  have hln := hi.len
  have hms := hi.most
  have s1 := measureO_sat a c.read c.val c.sr (by omega) (by omega)
  have s2 := rfMeasure_sat c.read c.val c.sr
  have s3 := ofS_sat c.sr (by have := hc.2.2; omega)
  obtain ⟨what, boot, read, val, ⟨nm, labs⟩, bs⟩ := c
  have hlb : labs.length ≤ 100 := hc.2.2
  simp only at h s1 s2 s3
  subst h
  show Sat _ _ _ _ _ (agH6 (measureA a read val (nm, labs)).1)
  generalize measureA a read val (nm, labs) = M at *
  obtain ⟨b, m1, m2⟩ := M
  refine sat_of_vc (T := tiOf Tryz.prog) (E := E0) Tryz.func12 rfl rfl hE0 hm0 rfl ?_
  conv => whnf
  iterate 6
    repeat' (first | exact True.intro | ((first | refine Yb fun _ => ?_ | refine Yc fun _ => ?_ | refine Ya (by kernel_rfl) ?_ | refine Ya (by decide) ?_ | refine Yd (by decide) fun _ => ?_ | refine Ye (by decide) fun _ => ?_ | refine ⟨_, _, s1.at4' 0 1 2 6 rfl rfl rfl rfl rfl rfl rfl, ?_⟩ | refine ⟨_, _, s2.at1 3 rfl rfl rfl, ?_⟩ | refine ⟨_, _, s3.pu rfl rfl, ?_⟩ | refine ⟨_, _, apd 2 32 (by kernel_rfl) rfl (by simp; omega), ?_⟩); conv => whnf) | (refine Ya (fun _ => ?_) (fun _ => ?_) <;> conv => whnf))
    all_goals try (refine Or.inl ?_; conv => whnf)
  refine ⟨Nat × List Lab, fun z => z.1 ≤ z.2.length ∧ z.2.length = labs.length, fun z => ([(12, iA z.1), (11, iA 21), (10, iA (-1)), (9, iA m2), (8, iA m1), (7, .ptr 7 0)], [.cells (agC b (.own 8) (.own 9)), .dead, .dead, .dead, .dead, .dead, .sl 2 (z.2.map labR), .cells [.d (tD nm), .own 6], .sl 4 (b.kept.map evR), .sl 3 (b.probes.map prR)]), fun z => labs.length - z.1, ⟨(0, labs), ⟨Nat.zero_le _, rfl⟩, ?_⟩, ?_⟩
  · all_goals refine ⟨[], ?_⟩
    repeat (any_goals (first | exact True.intro | exact rfl | exact (by kernel_rfl) | refine Ya ?_ ?_))
    all_goals conv => whnf
  rintro ⟨i, l⟩ ⟨hi1, hi2⟩
  have hi1 : i ≤ l.length := hi1
  have hi2 : l.length = labs.length := hi2
  have hm : (l.map labR).length = l.length := List.length_map _
  conv => whnf
  by_cases hlt : i < l.length
  · have hx : l[i]? = some l[i] := List.getElem?_eq_getElem hlt
    generalize l[i] = x at hx
    have hgx := map_get (f := labR) hx
    have d1 : decide ((i : Int) < ((l.map labR).length : Nat)) = true := decide_eq_true (by rw [hm]; omega)
    iterate 6
      repeat' (first | exact True.intro | ((first | refine ⟨i, rfl, (by rw [hm]; exact hlt), ?_⟩ | refine Ya (by decide) ?_ | refine ⟨labR x, labR (x.1, [33]), hgx, rfl, ?_⟩ | refine Yb fun _ => ?_ | refine Yc fun _ => ?_ | refine Ya (by kernel_rfl) ?_ | refine Ya (by decide) ?_ | refine Yd (by decide) fun _ => ?_ | refine Ye (by decide) fun _ => ?_); conv => whnf) | (refine Ya (fun _ => ?_) (fun _ => ?_) <;> conv => whnf))
      all_goals try (refine Or.inl ?_; conv => whnf)
    all_goals try exact (bnl d1 ‹_›).elim
    refine ⟨(i + 1, l.set i (x.1, [33])), ⟨by show i + 1 ≤ _; rw [List.length_set]; exact hlt, by show (l.set i _).length = _; rw [List.length_set]; exact hi2⟩, show labs.length - (i + 1) < labs.length - i by omega, ?_⟩
    all_goals refine ⟨[], ?_⟩
    repeat (any_goals (first | exact True.intro | exact rfl | exact (by kernel_rfl) | refine Ya ?_ ?_))
    all_goals conv => whnf
    · exact wk1 (by omega)
    · exact congrArg (AObj.sl 2) List.map_set.symm
  · have d1 : decide ((i : Int) < ((l.map labR).length : Nat)) = false := decide_eq_false (by rw [hm]; omega)
    iterate 6
      repeat' (first | exact True.intro | ((first | refine Yb fun _ => ?_ | refine Yc fun _ => ?_ | refine Ya (by kernel_rfl) ?_ | refine Ya (by decide) ?_ | refine Yd (by decide) fun _ => ?_ | refine Ye (by decide) fun _ => ?_); conv => whnf) | (refine Ya (fun _ => ?_) (fun _ => ?_) <;> conv => whnf))
      all_goals try (refine Or.inl ?_; conv => whnf)
    all_goals try exact (bnl ‹_› d1).elim
    all_goals refine ⟨[(4, 8), (5, 9)], ?_⟩
    repeat (any_goals (first | exact True.intro | exact rfl | exact (by kernel_rfl) | refine Ya ?_ ?_))
    all_goals conv => whnf
set_option maxHeartbeats 4000000 in
theorem told_2 (h : c.what = 2) : Sat Tryz.prog 12 [.ptr 0 0, .ptr 3 0, .d (.agg (clR c))] (agH a ++ [.cells (rfC 0)]) .any (agH6 (takeA a c.read c.bs).1) := by
  have hln := hi.len
  have hms := hi.most
  have s1 := take_satA a c.read c.bs hi.first hi.seq (by omega)
  have s2 := rfTake_sat c.read c.bs
  have s3 := copyBytesD_sat c.bs (by have := hc.2.1; omega)
  obtain ⟨what, boot, read, val, sr, bs⟩ := c
  simp only at h s1 s2 s3
  subst h
  refine sat_of_vc (T := tiOf Tryz.prog) (E := E0) Tryz.func12 rfl rfl hE0 hm0 rfl ?_
  conv => whnf
  iterate 6
    repeat' (first | exact True.intro | ((first | refine Yb fun _ => ?_ | refine Yc fun _ => ?_ | refine Ya (by kernel_rfl) ?_ | refine Ya (by decide) ?_ | refine Yd (by decide) fun _ => ?_ | refine Ye (by decide) fun _ => ?_ | refine ⟨_, _, s1.at3 0 1 2 rfl rfl rfl rfl rfl rfl, ?_⟩ | refine ⟨_, _, s2.at1 3 rfl rfl rfl, ?_⟩ | refine ⟨_, _, s3.pu rfl rfl, ?_⟩); conv => whnf) | (refine Ya (fun _ => ?_) (fun _ => ?_) <;> conv => whnf))
    all_goals try (refine Or.inl ?_; conv => whnf)
  all_goals refine ⟨[(4, 5), (5, 6)], ?_⟩
  repeat (any_goals (first | exact True.intro | exact rfl | exact (by kernel_rfl) | refine Ya ?_ ?_))
  all_goals conv => whnf
set_option maxHeartbeats 4000000 in
theorem told_3 (h : c.what = 3) : Sat Tryz.prog 12 [.ptr 0 0, .ptr 3 0, .d (.agg (clR c))] (agH a ++ [.cells (rfC 0)]) .any (agH6 (stepA a c.read).1) := by
  have s2 := rfStep_sat c.read
  have s3 := sameRows_nil
  by_cases he : (observeA a c.read).2 = 0
  · have s1 := step_yes a c.read hi he
    obtain ⟨what, boot, read, val, sr, bs⟩ := c
    simp only at h s1 s2
    subst h
    refine sat_of_vc (T := tiOf Tryz.prog) (E := E0) Tryz.func12 rfl rfl hE0 hm0 rfl ?_
    conv => whnf
    iterate 8
      repeat' (first | exact True.intro | ((first | refine Yb fun _ => ?_ | refine Yc fun _ => ?_ | refine Ya (by kernel_rfl) ?_ | refine Ya (by decide) ?_ | refine Yd (by decide) fun _ => ?_ | refine Ye (by decide) fun _ => ?_ | refine ⟨_, _, s1.at3 0 1 2 rfl rfl rfl rfl rfl rfl, ?_⟩ | refine ⟨_, _, s2.at1 3 rfl rfl rfl, ?_⟩ | refine ⟨_, _, s3.pu rfl rfl, ?_⟩); conv => whnf) | (refine Ya (fun _ => ?_) (fun _ => ?_) <;> conv => whnf))
      all_goals try (refine Or.inl ?_; conv => whnf)
    all_goals refine ⟨[(4, 5), (5, 7)], ?_⟩
    repeat (any_goals (first | exact True.intro | exact rfl | exact (by kernel_rfl) | refine Ya ?_ ?_))
    all_goals conv => whnf
  · have s1 := step_no a c.read he
    obtain ⟨what, boot, read, val, sr, bs⟩ := c
    simp only at h s1 s2 he
    subst h
    by_cases h21 : (observeA a read).2 = 21
    · rw [h21] at s1
      refine sat_of_vc (T := tiOf Tryz.prog) (E := E0) Tryz.func12 rfl rfl hE0 hm0 rfl ?_
      conv => whnf
      iterate 8
        repeat' (first | exact True.intro | ((first | refine Yb fun _ => ?_ | refine Yc fun _ => ?_ | refine Ya (by kernel_rfl) ?_ | refine Ya (by decide) ?_ | refine Yd (by decide) fun _ => ?_ | refine Ye (by decide) fun _ => ?_ | refine ⟨_, _, s1.at3 0 1 2 rfl rfl rfl rfl rfl rfl, ?_⟩ | refine ⟨_, _, s2.at1 3 rfl rfl rfl, ?_⟩ | refine ⟨_, _, s3.pu rfl rfl, ?_⟩); conv => whnf) | (refine Ya (fun _ => ?_) (fun _ => ?_) <;> conv => whnf))
        all_goals try (refine Or.inl ?_; conv => whnf)
      all_goals refine ⟨[(4, 5), (5, 6)], ?_⟩
      repeat (any_goals (first | exact True.intro | exact rfl | exact (by kernel_rfl) | refine Ya ?_ ?_))
      all_goals conv => whnf
    · have d1 : (((observeA a read).2 : Int) == 21) = false := by rw [beqI, decide_eq_false (by omega)]
      refine sat_of_vc (T := tiOf Tryz.prog) (E := E0) Tryz.func12 rfl rfl hE0 hm0 rfl ?_
      conv => whnf
      iterate 8
        repeat' (first | exact True.intro | ((first | refine Yb fun _ => ?_ | refine Yc fun _ => ?_ | refine Ya (by kernel_rfl) ?_ | refine Ya (by decide) ?_ | refine Yd (by decide) fun _ => ?_ | refine Ye (by decide) fun _ => ?_ | refine ⟨_, _, s1.at3 0 1 2 rfl rfl rfl rfl rfl rfl, ?_⟩ | refine ⟨_, _, s2.at1 3 rfl rfl rfl, ?_⟩ | refine ⟨_, _, s3.pu rfl rfl, ?_⟩); conv => whnf) | (refine Ya (fun _ => ?_) (fun _ => ?_) <;> conv => whnf))
        all_goals try (refine Or.inl ?_; conv => whnf)
      all_goals try exact (bnl ‹_› d1).elim
      all_goals refine ⟨[(4, 5), (5, 6)], ?_⟩
      repeat (any_goals (first | exact True.intro | exact rfl | exact (by kernel_rfl) | refine Ya ?_ ?_))
      all_goals conv => whnf
theorem told_x (h0 : c.what ≠ 0) (h1 : c.what ≠ 1) (h2 : c.what ≠ 2) (h3 : c.what ≠ 3) : Sat Tryz.prog 12 [.ptr 0 0, .ptr 3 0, .d (.agg (clR c))] (agH a ++ [.cells (rfC 0)]) .any (agH6 a) := by
  obtain ⟨what, boot, read, val, sr, bs⟩ := c
  have d0 := what_no h0
  have d1 := what_no h1
  have d2 := what_no h2
  have d3 := what_no h3
  simp only at d0 d1 d2 d3
  refine sat_of_vc (T := tiOf Tryz.prog) (E := E0) Tryz.func12 rfl rfl hE0 hm0 rfl ?_
  conv => whnf
  iterate 8
    repeat' (first | exact True.intro | ((first | refine Yb fun _ => ?_ | refine Yc fun _ => ?_ | refine Ya (by kernel_rfl) ?_ | refine Ya (by decide) ?_ | refine Yd (by decide) fun _ => ?_ | refine Ye (by decide) fun _ => ?_); conv => whnf) | (refine Ya (fun _ => ?_) (fun _ => ?_) <;> conv => whnf))
    all_goals try (refine Or.inl ?_; conv => whnf)
  all_goals try exact (bnl ‹_› d0).elim
  all_goals try exact (bnl ‹_› d1).elim
  all_goals try exact (bnl ‹_› d2).elim
  all_goals try exact (bnl ‹_› d3).elim
  all_goals refine ⟨[(1, 5), (2, 6), (4, 5), (5, 6)], ?_⟩
  repeat (any_goals (first | exact True.intro | exact rfl | exact (by kernel_rfl) | refine Ya ?_ ?_))
  all_goals conv => whnf
theorem told_sat : Sat Tryz.prog 12 [.ptr 0 0, .ptr 3 0, .d (.agg (clR c))] (agH a ++ [.cells (rfC 0)]) .any (agH6 (doA a c)) := by
  unfold doA
  split
  · exact told_0 a hi c hc ‹_›
  split
  · exact told_1 a hi c hc ‹_›
  split
  · exact told_2 a hi c hc ‹_›
  split
  · exact told_3 a hi c hc ‹_›
  · exact told_x a hi c hc ‹_› ‹_› ‹_› ‹_›
theorem do_sat : Sat Tryz.prog 17 [.ptr 0 0, .d (.agg (clR c))] (agH a) .any (agH2 (doA a c)) := by
  have t1 := told_sat a hi c hc
  generalize doA a c = b at *
  refine sat_of_vc (T := tiOf Tryz.prog) (E := E0) Tryz.func17 rfl rfl hE0 hm0 rfl ?_
  conv => whnf
  iterate 5
    repeat' (first | exact True.intro | ((first | refine Yb fun _ => ?_ | refine Yc fun _ => ?_ | refine Ya (by kernel_rfl) ?_ | refine Ya (by decide) ?_ | refine Yd (by decide) fun _ => ?_ | refine Ye (by decide) fun _ => ?_ | refine ⟨_, _, t1.at4' 0 1 2 4 rfl rfl rfl rfl rfl rfl rfl, ?_⟩); conv => whnf) | (refine Ya (fun _ => ?_) (fun _ => ?_) <;> conv => whnf))
    all_goals try (refine Or.inl ?_; conv => whnf)
  all_goals refine ⟨[(3, 5), (4, 6)], ?_⟩
  repeat (any_goals (first | exact True.intro | exact rfl | exact (by kernel_rfl) | refine Ya ?_ ?_))
  all_goals conv => whnf
end
end Go.Proofs.YtfbfpnfgabamfaaGreat
namespace Go.Proofs.YtfbfpnfgabamfaaGreat
set_option linter.unusedSimpArgs false
open Go.RowKit
set_option maxRecDepth 100000
set_option linter.unusedVariables false
theorem uintS_enc {u : Nat} (h : u < 18446744073709551616) (r : Bt) : uintS (enc u ++ r, 0) = (u, (r, 0)) := by
  unfold uintS
  simp [dec_enc h r]
theorem intS_enc {z : Int} (h : in64 z) (r : Bt) : intS (enc (turnN z) ++ r, 0) = (z, (r, 0)) := by
  unfold intS
  rw [uintS_enc (turnN_lt z h.1 h.2)]
  simp only [unturn_turn]
theorem cnt_enc {n : Nat} {m : Int} (hm : (n : Int) ≤ m) (h : n < 18446744073709551616) (r : Bt) : cnt (enc n ++ r) m = (n, (enc n).length, 0) := by
  unfold cnt
  rw [dec_enc h r]
  simp only
  rw [if_neg (by decide), if_neg (by rw [Int.max_def]; split <;> omega)]
theorem countS_enc {n : Nat} {m : Int} (hm : (n : Int) ≤ m) (h : n < 18446744073709551616) (r : Bt) : countS (enc n ++ r, 0) m = (n, (r, 0)) := by
  unfold countS
  simp [cnt_enc hm h r]
theorem txtS_enc {t : Bt} {m : Int} (hm : (t.length : Int) ≤ m) (h : t.length < 18446744073709551616) (r : Bt) : txtS (encTL t ++ r, 0) m = (t, (r, 0)) := by
  have e : encTL t ++ r = enc t.length ++ (t ++ r) := by unfold encTL; rw [List.append_assoc]
  unfold txtS
  simp only
  rw [e, cnt_enc hm h (t ++ r)]
  simp only
  rw [if_neg (by decide), if_neg (by decide), if_neg (by simp only [List.length_append]; omega)]
  have e1 : (enc t.length ++ (t ++ r)).drop ((enc t.length).length + t.length) = r := by
    rw [← List.drop_drop, List.drop_left, List.drop_left]
  have e2 : ((enc t.length ++ (t ++ r)).take ((enc t.length).length + t.length)).drop (enc t.length).length = t := by
    rw [List.drop_take, List.drop_left, show (enc t.length).length + t.length - (enc t.length).length = t.length by omega, List.take_left]
  rw [e1, e2]
theorem labsS_enc : ∀ (l acc : List Lab) (r : Bt), (∀ x ∈ l, x.1.length ≤ 64 ∧ x.2.length ≤ 64) → labsS l.length acc (labsT l ++ r, 0) = (acc ++ l, (r, 0))
  | [], acc, r, _ => by simp [labsS, labsT]
  | x :: l, acc, r, h => by
    have e : labsT (x :: l) ++ r = encTL x.1 ++ (encTL x.2 ++ (labsT l ++ r)) := by
      show (encTL x.1 ++ encTL x.2 ++ labsT l) ++ r = _
      simp only [List.append_assoc]
    obtain ⟨h1, h2⟩ := h x (List.mem_cons_self ..)
    rw [e]
    show labsS (l.length + 1) acc _ = _
    rw [labsS, txtS_enc (by omega) (by omega), ]
    simp only
    rw [txtS_enc (by omega) (by omega)]
    simp only
    rw [labsS_enc l _ r fun y hy => h y (List.mem_cons_of_mem _ hy)]
    simp
theorem right_lens {s : Ser} (h : rightB s = true) : s.1.length ≤ 64 ∧ s.2.length ≤ 8 ∧ ∀ x ∈ s.2, x.1.length ≤ 64 ∧ x.2.length ≤ 64 := by
  obtain ⟨h1, h2, h3⟩ := right_out h
  exact ⟨nameL_len h1, h2, fun x hx => labB_len (h3 x hx)⟩
theorem readS_enc {s : Ser} (h : rightB s = true) (r : Bt) : readS (bytesS s ++ r, 0) = (s, 0, (r, 0)) := by
  obtain ⟨h1, h2, h3⟩ := right_lens h
  have e : bytesS s ++ r = encTL s.1 ++ (enc s.2.length ++ (labsT s.2 ++ r)) := by
    unfold bytesS
    rw [if_pos h]
    simp only [List.append_assoc]
  unfold readS
  rw [e, txtS_enc (by omega) (by omega)]
  simp only
  rw [countS_enc (by omega) (by omega)]
  simp only
  rw [labsS_enc s.2 [] r h3]
  simp only
  rw [if_neg (by decide), List.nil_append, if_pos h]
abbrev evBk (x : Evt) : Prop := evOk x = true ∧ in64 x.2.1
theorem stamp_back {z : Int} (h0 : 0 ≤ z) (h1 : z ≤ 4611686018427387903) : z.toNat < 18446744073709551616 ∧ stampZ z.toNat = z := by
  refine ⟨by omega, ?_⟩
  unfold stampZ
  rw [Int.toNat_of_nonneg h0]
  exact wi (by omega) (by omega)
theorem evS_enc : ∀ (l acc : List Evt) (r : Bt), (∀ x ∈ l, evBk x) → evS l.length acc (evsT l ++ r, 0) = (.ok (acc ++ l), (r, 0))
  | [], acc, r, _ => by simp [evS, evsT]
  | x :: l, acc, r, h => by
    have e : evsT (x :: l) ++ r = enc x.1.toNat ++ (enc (turnN x.2.1) ++ (bytesS x.2.2 ++ (evsT l ++ r))) := by
      show (evT x ++ evsT l) ++ r = _
      unfold evT
      simp only [List.append_assoc]
    obtain ⟨h1, h2⟩ := h x (List.mem_cons_self ..)
    unfold evOk at h1
    rw [Bool.and_eq_true] at h1
    obtain ⟨h3, h4⟩ := h1
    obtain ⟨h5, h6⟩ := rngB_iff.1 h3
    obtain ⟨h7, h8⟩ := stamp_back h5 h6
    rw [e]
    show evS (l.length + 1) acc _ = _
    rw [evS, uintS_enc h7]
    simp only
    rw [intS_enc h2]
    simp only
    rw [readS_enc h4]
    simp only
    rw [if_neg (by decide), evS_enc l _ r fun y hy => h y (List.mem_cons_of_mem _ hy), h8]
    simp
theorem eventsS_enc {l : List Evt} (hl : l.length ≤ 64) (h : ∀ x ∈ l, evBk x) (r : Bt) : eventsS ((enc l.length ++ evsT l) ++ r, 0) = (.ok l, (r, 0)) := by
  unfold eventsS
  rw [List.append_assoc, countS_enc (by omega) (by omega)]
  simp only
  rw [if_neg (by decide), evS_enc l [] r h]
  rfl
theorem itS_enc {vs : List Int} (h : ∀ x ∈ vs, 0 ≤ x ∧ x ≤ 4611686018427387903) (r : Bt) : ∀ m, m ≤ vs.length → itS m (fldT vs ++ r, 0) = (fldT (vs.drop m) ++ r, 0)
  | 0, _ => rfl
  | m + 1, hm => by
    rw [itS, itS_enc h r m (by omega)]
    have hx : vs.drop m = vs[m] :: vs.drop (m + 1) := List.drop_eq_getElem_cons (by omega)
    have := h vs[m] (List.getElem_mem _)
    rw [hx]
    show (uintS ((enc vs[m].toNat ++ fldT (vs.drop (m + 1))) ++ r, 0)).2 = _
    rw [List.append_assoc, uintS_enc (by omega)]
theorem vlS_enc {vs : List Int} (h : ∀ x ∈ vs, 0 ≤ x ∧ x ≤ 4611686018427387903) (r : Bt) (m : Nat) (hm : m < vs.length) : vlS m (fldT vs ++ r, 0) = vs[m] := by
  unfold vlS
  rw [itS_enc h r m (by omega)]
  have hx : vs.drop m = vs[m] :: vs.drop (m + 1) := List.drop_eq_getElem_cons (by omega)
  have := h vs[m] (List.getElem_mem _)
  rw [hx]
  show IntKind.i64.wrap ((uintS ((enc vs[m].toNat ++ fldT (vs.drop (m + 1))) ++ r, 0)).1 : Int) = _
  rw [List.append_assoc, uintS_enc (by omega)]
  exact (stamp_back this.1 this.2).2
theorem frS_enc {f : Fr} {k : Nat} (h1 : 1 ≤ k) (h8 : k ≤ 8) (hv : ∀ x ∈ valsK f k, 0 ≤ x ∧ x ≤ 4611686018427387903) (hs : f = bareF f k) (r : Bt) : frS k (idxK k).length (fldT (valsK f k) ++ r, 0) f.ev f.sr f.d = f := by
  have hg : ∀ i (hi : i < (idxK k).length), vlS i (fldT (valsK f k) ++ r, 0) = getN f (idxK k)[i] := by
    intro i hi
    rw [vlS_enc hv r i (by unfold valsK; rw [List.length_map]; exact hi)]
    unfold valsK
    rw [List.getElem_map]
  generalize (fldT (valsK f k) ++ r, 0) = s at hg
  conv => rhs; rw [hs]
  have hev : f.ev = if k = 5 then f.ev else [] := congrArg Fr.ev hs
  have hsr : f.sr = if k = 8 then f.sr else ([], []) := congrArg Fr.sr hs
  have hd : f.d = if k = 8 then f.d else [] := congrArg Fr.d hs
  unfold bareF frS
  rw [← hev, ← hsr, ← hd]
  clear hev hsr hd hs hv
  have hk : k = 1 ∨ k = 2 ∨ k = 3 ∨ k = 4 ∨ k = 5 ∨ k = 6 ∨ k = 7 ∨ k = 8 := by omega
  rcases hk with rfl | rfl | rfl | rfl | rfl | rfl | rfl | rfl
  all_goals
    try have g0 := hg 0 (by decide)
    try have g1 := hg 1 (by decide)
    try have g2 := hg 2 (by decide)
    try have g3 := hg 3 (by decide)
    try have g4 := hg 4 (by decide)
    try have g5 := hg 5 (by decide)
    clear hg
    simp only [idxK, getN, List.getElem_cons_zero, List.getElem_cons_succ] at g0
    try simp only [idxK, getN, List.getElem_cons_zero, List.getElem_cons_succ] at g1
    try simp only [idxK, getN, List.getElem_cons_zero, List.getElem_cons_succ] at g2
    try simp only [idxK, getN, List.getElem_cons_zero, List.getElem_cons_succ] at g3
    try simp only [idxK, getN, List.getElem_cons_zero, List.getElem_cons_succ] at g4
    try simp only [idxK, getN, List.getElem_cons_zero, List.getElem_cons_succ] at g5
    simp [vb, vbL, idxK, bnum, getN]
    try simp only [g0]
    try simp only [g1]
    try simp only [g2]
    try simp only [g3]
    try simp only [g4]
    try simp only [g5]
    try (repeat' (first | exact True.intro | exact rfl | refine And.intro ?_ ?_))
theorem parse_enc {f : Fr} (hr : rightF f = true) (hz : ∀ x ∈ f.ev, in64 x.2.1) : parseF (frT f f.k.toNat) = (f, 0) := by
  have hk : 1 ≤ f.k ∧ f.k ≤ 8 := by
    unfold rightF at hr
    split at hr
    · assumption
    · cases hr
  obtain ⟨k, hkk⟩ : ∃ k : Nat, f.k = k := ⟨f.k.toNat, by omega⟩
  have h1 : 1 ≤ k := by omega
  have h8 : k ≤ 8 := by omega
  obtain ⟨q1, q2, q3, q4⟩ := right_parts (rightF_k hkk h1 h8 hr)
  have q4 := sameB_iff.1 q4
  have e0 : frT f f.k.toNat = enc k ++ (fldT (valsK f k) ++ extT f k) := by
    unfold frT
    rw [hkk, Int.toNat_natCast, List.append_assoc]
  have hit := itS_enc q2 (extT f k) (idxK k).length (by unfold valsK; rw [List.length_map]; exact Nat.le_refl _)
  rw [List.drop_of_length_le (by unfold valsK; rw [List.length_map]; exact Nat.le_refl _)] at hit
  have hit : itS (idxK k).length (fldT (valsK f k) ++ extT f k, 0) = (extT f k, 0) := hit
  have hfr := frS_enc h1 h8 q2 q4 (extT f k)
  have hfin : ∀ g : Fr, g = f → finP g ([], 0) = (f, 0) := fun g hg => by
    subst hg
    unfold finP
    rw [if_neg (fun q => q rfl), if_pos hr]
  unfold parseF
  rw [e0, uintS_enc (by omega)]
  simp only
  rw [if_neg (by decide), if_neg (by omega)]
  unfold parseK
  rw [hit]
  rw [if_neg (fun q => q rfl)]
  unfold tailP
  have hev : k ≠ 5 → f.ev = [] := fun h => (congrArg Fr.ev q4).trans (if_neg h)
  have hsr : k ≠ 8 → f.sr = ([], []) := fun h => (congrArg Fr.sr q4).trans (if_neg h)
  have hd : k ≠ 8 → f.d = [] := fun h => (congrArg Fr.d q4).trans (if_neg h)
  split
  · have q3 : batchB f.n f.ev = true := q3
    simp only [batchB, Bool.and_eq_true, decide_eq_true_eq] at q3
    have ee := eventsS_enc q3.2.1 (fun x hx => ⟨List.all_eq_true.1 q3.2.2.2 x hx, hz x hx⟩) []
    rw [List.append_nil] at ee
    have ex : extT f 5 = enc f.ev.length ++ evsT f.ev := rfl
    rw [ex] at hfr ⊢
    rw [ee]
    simp only
    refine hfin _ ?_
    rw [hsr (by decide), hd (by decide)] at hfr
    exact hfr
  · have q3 : (rightB f.sr && decide (f.d.length ≤ 4096)) = true := q3
    simp only [Bool.and_eq_true, decide_eq_true_eq] at q3
    have ex : extT f 8 = bytesS f.sr ++ encTL f.d := rfl
    have et := txtS_enc (t := f.d) (m := 4096) (by omega) (by omega) []
    rw [List.append_nil] at et
    rw [ex] at hfr ⊢
    rw [readS_enc q3.1]
    simp only
    rw [et]
    simp only
    rw [if_neg (by decide), if_neg (by decide)]
    refine hfin _ ?_
    rw [hev (by decide)] at hfr
    exact hfr
  · rename_i n5 n8
    have ex : extT f k = [] := by
      unfold extT
      rw [if_neg (fun h => n5 h), if_neg (fun h => n8 h)]
    rw [ex] at hfr ⊢
    refine hfin _ ?_
    rw [hev (fun h => n5 h), hsr (fun h => n8 h), hd (fun h => n8 h)] at hfr
    exact hfr
theorem decode_enc {f : Fr} (hr : rightF f = true) (hz : ∀ x ∈ f.ev, in64 x.2.1) (hL : (encodeT f).length ≤ 65536) : decodeF (encodeT f) = (f, 0) := by
  have ho : openOk (encodeT f) = true := by
    unfold openOk encodeT
    rw [sealT_len, Nat.add_sub_cancel]
    refine decide_eq_true ⟨by omega, ?_⟩
    unfold sealT
    rw [List.drop_left, List.take_left]
  have he : openErr (encodeT f) = 0 := by
    unfold openErr
    rw [if_neg (by unfold encodeT; rw [sealT_len]; omega), ho]
    rfl
  have hb : openBody (encodeT f) = frT f f.k.toNat := by
    unfold openBody
    rw [if_pos ho]
    unfold encodeT
    rw [sealT_len, Nat.add_sub_cancel]
    unfold sealT
    rw [List.take_left]
  unfold decodeF
  rw [if_neg (by omega), if_neg (by rw [he]; decide), hb]
  exact parse_enc hr hz
def ltrN : Nat → UInt8
  | 1 => 97 | 2 => 101 | 3 => 98 | 4 => 99 | 5 => 103 | 6 => 115 | 7 => 110 | 8 => 116 | _ => 119
def hasT : Nat → Bt
  | 1 => [97, 98] | 2 => [97, 98, 101] | 3 => [97, 98, 99] | 4 => [97, 101, 98, 99, 103, 115] | 5 => [97, 101, 110, 69] | 6 => [97, 101, 110] | 7 => [97, 101, 110, 116] | 8 => [119, 83, 68] | _ => []
theorem has_sat (k : Nat) (h1 : 1 ≤ k) (h8 : k ≤ 8) : Sat Tryz.prog 67 [iA k] [] (.d (tD (hasT k))) [] := by
  have hk : k = 1 ∨ k = 2 ∨ k = 3 ∨ k = 4 ∨ k = 5 ∨ k = 6 ∨ k = 7 ∨ k = 8 := by omega
  rcases hk with rfl | rfl | rfl | rfl | rfl | rfl | rfl | rfl
  all_goals
    refine sat_of_vc (T := tiOf Tryz.prog) (E := E0) Tryz.func67 rfl rfl hE0 hm0 rfl ?_
    conv => whnf
    iterate 4
      repeat' (first | exact True.intro | ((first | refine ⟨0, rfl, (by decide), ?_⟩ | refine ⟨1, rfl, (by decide), ?_⟩ | refine ⟨2, rfl, (by decide), ?_⟩ | refine ⟨3, rfl, (by decide), ?_⟩ | refine ⟨4, rfl, (by decide), ?_⟩ | refine ⟨5, rfl, (by decide), ?_⟩ | refine ⟨6, rfl, (by decide), ?_⟩ | refine ⟨7, rfl, (by decide), ?_⟩ | refine ⟨_, rfl, ?_⟩ | refine Yb fun _ => ?_ | refine Yc fun _ => ?_ | refine Ya (by kernel_rfl) ?_ | refine Ya (by decide) ?_ | refine Yd (by decide) fun _ => ?_ | refine Ye (by decide) fun _ => ?_); conv => whnf) | (refine Ya (fun _ => ?_) (fun _ => ?_) <;> conv => whnf))
      all_goals try (refine Or.inl ?_; conv => whnf)
    all_goals refine ⟨[], ?_⟩
    repeat (any_goals (first | exact True.intro | exact rfl | exact (by kernel_rfl) | refine Ya ?_ ?_))
    all_goals conv => whnf
theorem number_sat (f : Fr) (j : Nat) (h1 : 1 ≤ j) (h9 : j ≤ 9) : Sat Tryz.prog 71 [.ptr 0 0, u8A (ltrN j)] [.cells (frA f)] (.ptr 0 j) [.cells (frA f)] := by
  have hj : j = 1 ∨ j = 2 ∨ j = 3 ∨ j = 4 ∨ j = 5 ∨ j = 6 ∨ j = 7 ∨ j = 8 ∨ j = 9 := by omega
  rcases hj with rfl | rfl | rfl | rfl | rfl | rfl | rfl | rfl | rfl
  all_goals
    refine sat_of_vc (T := tiOf Tryz.prog) (E := E0) Tryz.func71 rfl rfl hE0 hm0 rfl ?_
    conv => whnf
    iterate 10
      repeat' (first | exact True.intro | ((first | refine Yb fun _ => ?_ | refine Yc fun _ => ?_ | refine Ya (by kernel_rfl) ?_ | refine Ya (by decide) ?_ | refine Yd (by decide) fun _ => ?_ | refine Ye (by decide) fun _ => ?_); conv => whnf) | (refine Ya (fun _ => ?_) (fun _ => ?_) <;> conv => whnf))
      all_goals try (refine Or.inl ?_; conv => whnf)
    all_goals refine ⟨[], ?_⟩
    repeat (any_goals (first | exact True.intro | exact rfl | exact (by kernel_rfl) | refine Ya ?_ ?_))
    all_goals conv => whnf
theorem time_sat (z : Int) : Sat Tryz.prog 103 [iA z] [] (bA (rngB z)) [] := by
  by_cases h : 0 ≤ z ∧ z ≤ 4611686018427387903
  · rw [rngB_iff.2 h]
    have d1 : decide (z ≥ 0) = true := decide_eq_true h.1
    have d2 : decide (z ≤ 4611686018427387903) = true := decide_eq_true h.2
    refine sat_of_vc (T := tiOf Tryz.prog) (E := E0) Tryz.func103 rfl rfl hE0 hm0 rfl ?_
    conv => whnf
    iterate 4
      repeat' (first | exact True.intro | ((first | refine Yb fun _ => ?_ | refine Yc fun _ => ?_ | refine Ya (by kernel_rfl) ?_ | refine Ya (by decide) ?_ | refine Yd (by decide) fun _ => ?_ | refine Ye (by decide) fun _ => ?_); conv => whnf) | (refine Ya (fun _ => ?_) (fun _ => ?_) <;> conv => whnf))
      all_goals try (refine Or.inl ?_; conv => whnf)
    all_goals try exact (bnl d1 ‹_›).elim
    all_goals refine ⟨[], ?_⟩
    repeat (any_goals (first | exact True.intro | exact rfl | exact (by kernel_rfl) | refine Ya ?_ ?_))
    all_goals conv => whnf
    rw [d2]
  · have e : rngB z = false := by
      cases hh : rngB z with
      | false => rfl
      | true => exact absurd (rngB_iff.1 hh) h
    rw [e]
    have hneg : ¬ (decide (z ≥ 0) = true ∧ decide (z ≤ 4611686018427387903) = true) := by
      rintro ⟨p1, p2⟩
      exact h ⟨of_decide_eq_true p1, of_decide_eq_true p2⟩
    refine sat_of_vc (T := tiOf Tryz.prog) (E := E0) Tryz.func103 rfl rfl hE0 hm0 rfl ?_
    conv => whnf
    iterate 4
      repeat' (first | exact True.intro | ((first | refine Yb fun _ => ?_ | refine Yc fun _ => ?_ | refine Ya (by kernel_rfl) ?_ | refine Ya (by decide) ?_ | refine Yd (by decide) fun _ => ?_ | refine Ye (by decide) fun _ => ?_); conv => whnf) | (refine Ya (fun _ => ?_) (fun _ => ?_) <;> conv => whnf))
      all_goals try (refine Or.inl ?_; conv => whnf)
    all_goals refine ⟨[], ?_⟩
    repeat (any_goals (first | exact True.intro | exact rfl | exact (by kernel_rfl) | refine Ya ?_ ?_))
    all_goals conv => whnf
    exact congrArg (fun b => bA b) (by
      cases hh : decide (z ≤ 4611686018427387903) with
      | false => rfl
      | true => exact (hneg ⟨‹decide (z ≥ 0) = true›, hh⟩).elim)
theorem in_sat (s : Bt) (c : UInt8) (hn : s.length ≤ 1000) : Sat Tryz.prog 102 [.d (tD s), u8A c] [] (bA (s.contains c)) [] := by
  have hs := tsz s
  refine sat_of_vc (T := tiOf Tryz.prog) (E := E0) Tryz.func102 rfl rfl hE0 hm0 rfl ?_
  conv => whnf
  iterate 3
    repeat' (first | exact True.intro | ((first | refine Yb fun _ => ?_ | refine Yc fun _ => ?_ | refine Ya (by kernel_rfl) ?_ | refine Ya (by decide) ?_ | refine Yd (by decide) fun _ => ?_ | refine Ye (by decide) fun _ => ?_); conv => whnf) | (refine Ya (fun _ => ?_) (fun _ => ?_) <;> conv => whnf))
    all_goals try (refine Or.inl ?_; conv => whnf)
  refine ⟨Nat, fun i => i ≤ s.length ∧ (s.take i).contains c = false, fun i => ([(5, iA i), (1, u8A c), (0, .d (tD s))], []), fun i => s.length - i, ⟨0, ⟨Nat.zero_le _, rfl⟩, ?_⟩, ?_⟩
  · all_goals refine ⟨[], ?_⟩
    repeat (any_goals (first | exact True.intro | exact rfl | exact (by kernel_rfl) | refine Ya ?_ ?_))
    all_goals conv => whnf
  rintro i ⟨hi, hI⟩
  have hi : i ≤ s.length := hi
  have hI : (s.take i).contains c = false := hI
  conv => whnf
  by_cases hlt : i < s.length
  · have hz : s[i]? = some s[i] := List.getElem?_eq_getElem hlt
    generalize s[i] = z at hz
    obtain ⟨qz, ez⟩ := ix_get hz
    have d1 : decide ((i : Int) < ((⟨s.toArray⟩ : ByteArray).size : Nat)) = true := decide_eq_true (by rw [hs]; omega)
    by_cases hzc : z = c
    · have e : s.contains c = true := List.contains_iff_mem.2 (hzc ▸ List.mem_of_getElem? hz)
      rw [e]
      have d2 : ((z.toNat : Int) == (c.toNat : Int)) = true := by rw [hzc, beq_iff_eq]
      iterate 4
        repeat' (first | exact True.intro | ((first | (refine ⟨i, qz, rfl, ?_⟩; rw [ez]) | refine Yb fun _ => ?_ | refine Yc fun _ => ?_ | refine Ya (by kernel_rfl) ?_ | refine Ya (by decide) ?_ | refine Yd (by decide) fun _ => ?_ | refine Ye (by decide) fun _ => ?_); conv => whnf) | (refine Ya (fun _ => ?_) (fun _ => ?_) <;> conv => whnf))
        all_goals try (refine Or.inl ?_; conv => whnf)
      all_goals try exact (bnl d1 ‹_›).elim
      all_goals try exact (bnl d2 ‹_›).elim
      all_goals refine ⟨[], ?_⟩
      repeat (any_goals (first | exact True.intro | exact rfl | exact (by kernel_rfl) | refine Ya ?_ ?_))
      all_goals conv => whnf
    · have d2 : ((z.toNat : Int) == (c.toNat : Int)) = false := by
        rw [beq_eq_false_iff_ne]
        exact fun h => hzc (UInt8.toNat.inj (by omega))
      iterate 4
        repeat' (first | exact True.intro | ((first | (refine ⟨i, qz, rfl, ?_⟩; rw [ez]) | refine Yb fun _ => ?_ | refine Yc fun _ => ?_ | refine Ya (by kernel_rfl) ?_ | refine Ya (by decide) ?_ | refine Yd (by decide) fun _ => ?_ | refine Ye (by decide) fun _ => ?_); conv => whnf) | (refine Ya (fun _ => ?_) (fun _ => ?_) <;> conv => whnf))
        all_goals try (refine Or.inl ?_; conv => whnf)
      all_goals try exact (bnl d1 ‹_›).elim
      all_goals try exact (bnl ‹_› d2).elim
      refine ⟨i + 1, ⟨hlt, ?_⟩, show s.length - (i + 1) < s.length - i by omega, ?_⟩
      · rw [List.take_add_one, hz]
        cases hc : (s.take i ++ (some z).toList).contains c with
        | false => rfl
        | true =>
          rcases List.mem_append.1 (List.contains_iff_mem.1 hc) with q | q
          · rw [List.contains_iff_mem.2 q] at hI; cases hI
          · exact absurd (List.mem_singleton.1 q).symm hzc
      all_goals refine ⟨[], ?_⟩
      repeat (any_goals (first | exact True.intro | exact rfl | exact (by kernel_rfl) | refine Ya ?_ ?_))
      all_goals conv => whnf
      exact wk1 (by omega)
  · have d1 : decide ((i : Int) < ((⟨s.toArray⟩ : ByteArray).size : Nat)) = false := decide_eq_false (by rw [hs]; omega)
    rw [List.take_of_length_le (show s.length ≤ i by omega)] at hI
    rw [hI]
    iterate 4
      repeat' (first | exact True.intro | ((first | refine Yb fun _ => ?_ | refine Yc fun _ => ?_ | refine Ya (by kernel_rfl) ?_ | refine Ya (by decide) ?_ | refine Yd (by decide) fun _ => ?_ | refine Ye (by decide) fun _ => ?_); conv => whnf) | (refine Ya (fun _ => ?_) (fun _ => ?_) <;> conv => whnf))
      all_goals try (refine Or.inl ?_; conv => whnf)
    all_goals try exact (bnl ‹_› d1).elim
    all_goals refine ⟨[], ?_⟩
    repeat (any_goals (first | exact True.intro | exact rfl | exact (by kernel_rfl) | refine Ya ?_ ?_))
    all_goals conv => whnf
end Go.Proofs.YtfbfpnfgabamfaaGreat
namespace Go.Proofs.YtfbfpnfgabamfaaGreat
set_option linter.unusedSimpArgs false
open Go.RowKit
set_option linter.unusedVariables false
theorem spell_bit0 (r : Nat) (h : r < 4294967296) (h0 : r % 2 = 0) : ((r : Int) / 2) = ((bitN r : Nat) : Int) := by
  unfold bitN; rw [if_neg (by omega)]; simp
theorem spell_bit1 (r : Nat) (h : r < 4294967296) (h0 : r % 2 = 1) : bits BinOp.xor IntKind.u32 ((r : Int) / 2) 3988292384 = ((bitN r : Nat) : Int) := by
  have := u32_xor_nat (r / 2) 3988292384 (by omega) (by omega)
  unfold bitN; rw [if_pos h0]; simpa using this
theorem refSum_any (A : Option Addr) (n c : Nat) (l : List UInt8) (w : World) (hr : RdB w w.heap.size A n l) (hn : n ≤ 140737488351232) :
    Calls Tryz.prog 105 #[.slice A n c] w fun e w' => e = .returned (.int .u32 (sumN l : Nat)) ∧ w = w' := by
  have hlen := RdB.len hr
  go_enter Tryz.func105, Tryz.ntmps105
  go_wp2
  go_loop [3, 4, 5, 6] (fun s3 i _ _ => ∃ j : Nat, j ≤ n ∧ i = .int .i64 j ∧ s3 = .int .u32 (regN 4294967295 (l.take j) : Nat)) (fun _ i _ _ => n - (intOf i).toNat)
  case atStart => exact ⟨0, Nat.zero_le _, rfl, rfl⟩
  case round =>
    obtain ⟨j, hj, rfl, rfl⟩ := hrel
    have hlt2 := regN_lt (l.take j) (r := 4294967295) (by omega)
    generalize hS : regN 4294967295 (l.take j) = S at hlt2 ⊢
    have HS := hide hS
    clear hS
    by_cases hj1 : j < n
    · obtain ⟨b', off', rfl, hb', hc'⟩ := RdB.cell hr hj1
      have hj2 : j < l.length := by omega
      have hx := (l[j]).toNat_lt
      have hsp := spell_byte S l[j] hlt2
      have hlt3 := xor_byte_lt hlt2 l[j]
      go_wp2
      go_loop [3, 5, 6] (fun s3 i _ => ∃ q : Nat, q ≤ 8 ∧ i = .int .i64 q ∧ s3 = .int .u32 (bitsN q (S ^^^ (l[j]).toNat) : Nat)) (fun _ i _ => 8 - (intOf i).toNat)
      case atStart => exact ⟨0, Nat.zero_le _, rfl, rfl⟩
      case round =>
        obtain ⟨q, hq, rfl, rfl⟩ := hrel
        have hlt4 := bitsN_lt hlt3 q
        clear hsp
        generalize hT : bitsN q (S ^^^ (l[j]).toNat) = T at hlt4 ⊢
        have HT := hide hT
        clear hT
        by_cases hq1 : q < 8
        · rcases Nat.mod_two_eq_zero_or_one T with h0 | h0
          · have hb : ((T : Int) % 2 == 1) = false := by simp; omega
            have HE := hide h0
            clear h0
            go_wp2
            go_round
            case rel => exact ⟨q + 1, by omega, by go_num, by rw [show bitsN (q + 1) (S ^^^ l[j].toNat) = bitN T from by rw [← HT.out]; rfl, spell_bit0 T hlt4 HE.out]⟩
            case measure => simp [intOf]; omega
          · have hb : ((T : Int) % 2 == 1) = true := by simp; omega
            have HE := hide h0
            clear h0
            go_wp2
            go_round
            case rel => exact ⟨q + 1, by omega, by go_num, by rw [show bitsN (q + 1) (S ^^^ l[j].toNat) = bitN T from by rw [← HT.out]; rfl, spell_bit1 T hlt4 HE.out]⟩
            case measure => simp [intOf]; omega
        · go_wp2
          go_round
          case rel =>
            refine ⟨j + 1, by omega, by go_num, ?_⟩
            obtain rfl : q = 8 := by omega
            rw [List.take_succ_eq_append_getElem hj2, regN_snoc, HS.out, ← HT.out]
            rfl
          case measure => simp [intOf]; omega
    · go_wp2
      go_ret
      have HF : regN 4294967295 l = S := by rw [← HS.out, List.take_of_length_le (by omega)]
      refine ⟨ret_int ?_, rfl⟩
      unfold sumN
      rw [HF]
      exact spell_full S hlt2
theorem refSeal_any (A : Option Addr) (n c : Nat) (l : List UInt8) (w : World) (hr : RdB w w.heap.size A n l) (hn : n ≤ 70368744175616) :
    Calls Tryz.prog 72 #[.slice A n c] w fun e w' => ∃ v, e = .returned v ∧ Ow w' w.heap.size 5 1 v (n + 4) ((l ++ le4 (sumN l)).map bv) ∧ Below w.heap.size w w' := by
  obtain ⟨i0, hi0, hz0, hz1, hz2⟩ := info_parts Tryz.info8
  have hlt := sumN_lt l
  have hle := le4_spelled (sumN l) hlt
  have HLE := hide hle
  clear hle
  go_enter Tryz.func72, Tryz.ntmps72
  go_wp2_with (first
   | (go_at_call 105; refine (refSum_any A n c l _ hr (by omega)).mono ?_; rintro e w' ⟨rfl, rfl⟩)
   | (at_builtin; refine wpList_append_ow _ rfl (.tmp 6) (.tmp 7) _ rfl w.heap.size 5 i0 _ 1 1 Tryz.underlying36 hi0 hz0 hz1 hz2 rfl (by omega) (.slice (some ⟨w.heap.size, 0, none⟩) 0 0) 0 [] rfl (Ow.lit w #[] 0 (Nat.le_refl _) (by simp [maxLen]) rfl) w.heap.size A n c (l.map bv) rfl (hr.alloc (Nat.le_refl _) _) (bvs_one l) (by simp only [maxLen]; omega) (by omega) (by simp) ?_; intro v1 w1 hown1 hg1 hat1 hnn1)
   | (at_builtin; refine wpList_append_ow _ rfl (.tmp 8) (.tmp 20) _ rfl w.heap.size 5 i0 _ 1 1 Tryz.underlying36 hi0 hz0 hz1 hz2 rfl (by omega) v1 (0 + n) ([] ++ l.map bv) rfl (hown1.alloc _) (w1.heap.size + 1) (some ⟨w1.heap.size, 0, none⟩) 4 4 ((le4 (sumN l)).map bv) rfl (by rw [← HLE.out]; exact Rd.lit _ _ _ _ _ (by simp [maxLen]) rfl) (bvs_one _) (by simp only [maxLen]; omega) (by omega) (by have := hg1.size; simp at this ⊢; omega) ?_; intro v2 w2 hown2 hg2 hat2 hnn2))
  go_ret
  have hb1 : Below w.heap.size w w1 := ((Below.refl _ _).alloc (Nat.le_refl _) _).grown hg1 (by simp) (by simp [Value.ownBlock])
  refine ⟨_, rfl, ?_, ?_⟩
  · rw [List.map_append]
    simpa using hown2
  · exact (hb1.alloc hb1.size _).grown hg2 (by have := hb1.size; simp; omega) (fun k hk => hown1.lt k hk)
end Go.Proofs.YtfbfpnfgabamfaaGreat
namespace Go.Proofs.YtfbfpnfgabamfaaGreat
set_option linter.unusedSimpArgs false
open Go.RowKit
set_option maxRecDepth 100000
set_option linter.unusedVariables false
theorem rSeal_sat (l : Bt) (hl : l.length ≤ 100000000) : Sat Tryz.prog 72 [.d (bsD l)] [] (.own 0) [.sl 1 ((sealT l).map bR)] := by
  intro F ρ w vals En hv
  obtain ⟨v, rfl, hv'⟩ := hv.one_out
  cases hv' with | d hv =>
  obtain ⟨A1, c1, rfl, k1, k2, k3⟩ := hv.sl_rd En.fb (bR_flats l)
  rw [List.length_map] at k1 k3 ⊢
  refine (refSeal_any A1 _ c1 l w k3 (by omega)).mono ?_
  rintro x w' ⟨v, rfl, how, hb⟩
  have hlen : ((sealT l).map bR).length = l.length + 4 := by rw [List.length_map, sealT_len]
  refine ⟨v, rfl, own_ret En (bR_flats _) one_len (by rw [hlen]; omega) (by rw [hlen]; exact how) hb⟩
theorem u64_nn {z : Int} (h0 : 0 ≤ z) (h1 : z ≤ 4611686018427387903) : IntKind.u64.wrap z = (z.toNat : Int) := by
  have h2 : IntKind.u64.wrap z = z % 18446744073709551616 := rfl
  rw [h2]; omega
theorem rUintZ (z : Int) (h0 : 0 ≤ z) (h1 : z ≤ 4611686018427387903) : Sat Tryz.prog 66 [.d (.v (.int .u64 (IntKind.u64.wrap z)))] [] (.own 0) [.sl 1 ((enc z.toNat).map bR)] := by
  rw [u64_nn h0 h1]
  exact rUint_sat _ (by omega)
set_option maxHeartbeats 16000000 in
theorem rEncode_2 (f : Fr) (hk : f.k = 2) (hf : FrOk f) (hr : rightF f = true) (r1 : Sat Tryz.prog 65 [.d (frD f)] [] (bA true) []) : Sat Tryz.prog 31 [.d (frD f)] [] (.tup [.own 0, iA 0]) [.sl 1 ((encodeT f).map bR)] := by
  have hrk := rightF_k hk (by decide) (by decide) hr
  obtain ⟨hho, hv, hx, _⟩ := right_parts hrk
  have h0 := has_sat 2 (by decide) (by decide)
  have hT : encodeT f = sealT (enc 2 ++ fldT ((valsK f 2).take 3)) := by
    unfold encodeT
    rw [hk]
    show sealT (frT f 2) = _
    congr 1
    simp [frT, extT, valsK, idxK, fldT]
  have hle : ∀ i, (enc 2 ++ fldT ((valsK f 2).take i)).length ≤ 1000 := fun i => by
    have h1 := fldT_len ((valsK f 2).take i)
    have h2 := valsK_len f 2
    have h3 := enc_lens 2
    rw [List.length_take] at h1
    rw [List.length_append]; omega
  have hap : ∀ i (x : Int), (enc 2 ++ fldT ((valsK f 2).take i)).length + (enc x.toNat).length ≤ 100000 := fun i x => by
    have h1 := hle i
    have h2 := enc_lens x.toNat
    omega
  have sl := rSeal_sat _ (Nat.le_trans (hle 3) (by decide))
  have hsl : ((sealT (enc 2 ++ fldT ((valsK f 2).take 3))).map bR).length ≤ 1004 := by
    have := hle 3
    rw [List.length_map, sealT_len]; omega
  have d9 : decide ((((sealT (enc 2 ++ fldT ((valsK f 2).take 3))).map bR).length : Int) > 65536) = false := decide_eq_false (by omega)
  rw [hT]
  clear hT hho hx
  obtain ⟨kk, a, e, b, c, g, s, n, t, w, ev, sr, d⟩ := f
  have hk : kk = 2 := hk
  subst hk
  have u0 : Sat Tryz.prog 66 [.d (.v (.int .u64 (IntKind.u64.wrap 2)))] [] (.own 0) [.sl 1 ((enc 2).map bR)] := rUintZ 2 (by decide) (by decide)
  refine sat_of_vc (T := tiOf Tryz.prog) (E := E0) Tryz.func31 rfl rfl hE0 hm0 rfl ?_
  conv => whnf
  iterate 6
    repeat' (first | exact True.intro | ((first | refine Yb fun _ => ?_ | refine Yc fun _ => ?_ | refine Ya (by kernel_rfl) ?_ | refine Ya (by decide) ?_ | refine Yd (by decide) fun _ => ?_ | refine Ye (by decide) fun _ => ?_ | refine ⟨_, _, r1.pu rfl rfl, ?_⟩ | refine ⟨_, _, u0.nw rfl, ?_⟩ | refine ⟨_, _, h0.pu rfl rfl, ?_⟩); conv => whnf) | (refine Ya (fun _ => ?_) (fun _ => ?_) <;> conv => whnf))
    all_goals try (refine Or.inl ?_; conv => whnf)
  refine ⟨Nat, fun i => i ≤ 3, fun i => ([(6, iA i), (5, .d (tD (hasT 2))), (4, .own 1), (1, .ptr 0 0)], [.cells (frA ⟨2, a, e, b, c, g, s, n, t, w, ev, sr, d⟩), .sl 1 ((enc 2 ++ fldT ((valsK ⟨2, a, e, b, c, g, s, n, t, w, ev, sr, d⟩ 2).take i)).map bR)]), fun i => 3 - i, ⟨0, Nat.zero_le _, ?_⟩, ?_⟩
  · all_goals refine ⟨[], ?_⟩
    repeat (any_goals (first | exact True.intro | exact rfl | exact (by kernel_rfl) | refine Ya ?_ ?_))
    all_goals conv => whnf
  intro i hi
  have hi : i ≤ 3 := hi
  have hc : i = 0 ∨ i = 1 ∨ i = 2 ∨ i = 3 := by omega
  rcases hc with rfl | rfl | rfl | rfl
  · have n1 := number_sat ⟨2, a, e, b, c, g, s, n, t, w, ev, sr, d⟩ 1 (by decide) (by decide)
    have hz := hv a (by simp [valsK, idxK, getN])
    have u1 := rUintZ a hz.1 hz.2
    conv => whnf
    iterate 9
      repeat' (first | exact True.intro | ((first | refine ⟨0, (by decide), rfl, ?_⟩ | refine Yb fun _ => ?_ | refine Yc fun _ => ?_ | refine Ya (by kernel_rfl) ?_ | refine Ya (by decide) ?_ | refine Yd (by decide) fun _ => ?_ | refine Ye (by decide) fun _ => ?_ | refine ⟨_, _, n1.at1 0 rfl rfl rfl, ?_⟩ | refine ⟨_, _, u1.nw rfl, ?_⟩ | refine ⟨_, _, ap1 rfl rfl (hap 0 a), ?_⟩); conv => whnf) | (refine Ya (fun _ => ?_) (fun _ => ?_) <;> conv => whnf))
      all_goals try (refine Or.inl ?_; conv => whnf)
    refine ⟨1, show 1 ≤ 3 by decide, show 3 - 1 < 3 - 0 by decide, ?_⟩
    all_goals refine ⟨[(1, 3)], ?_⟩
    repeat (any_goals (first | exact True.intro | exact rfl | exact (by kernel_rfl) | refine Ya ?_ ?_))
    all_goals conv => whnf
    all_goals exact congrArg (fun z : Bt => AObj.sl 1 (z.map bR)) (by simp [valsK, idxK, getN, fldT])
  · have n1 := number_sat ⟨2, a, e, b, c, g, s, n, t, w, ev, sr, d⟩ 3 (by decide) (by decide)
    have hz := hv b (by simp [valsK, idxK, getN])
    have u1 := rUintZ b hz.1 hz.2
    conv => whnf
    iterate 9
      repeat' (first | exact True.intro | ((first | refine ⟨1, (by decide), rfl, ?_⟩ | refine Yb fun _ => ?_ | refine Yc fun _ => ?_ | refine Ya (by kernel_rfl) ?_ | refine Ya (by decide) ?_ | refine Yd (by decide) fun _ => ?_ | refine Ye (by decide) fun _ => ?_ | refine ⟨_, _, n1.at1 0 rfl rfl rfl, ?_⟩ | refine ⟨_, _, u1.nw rfl, ?_⟩ | refine ⟨_, _, ap1 rfl rfl (hap 1 b), ?_⟩); conv => whnf) | (refine Ya (fun _ => ?_) (fun _ => ?_) <;> conv => whnf))
      all_goals try (refine Or.inl ?_; conv => whnf)
    refine ⟨2, show 2 ≤ 3 by decide, show 3 - 2 < 3 - 1 by decide, ?_⟩
    all_goals refine ⟨[(1, 3)], ?_⟩
    repeat (any_goals (first | exact True.intro | exact rfl | exact (by kernel_rfl) | refine Ya ?_ ?_))
    all_goals conv => whnf
    all_goals exact congrArg (fun z : Bt => AObj.sl 1 (z.map bR)) (by simp [valsK, idxK, getN, fldT])
  · have n1 := number_sat ⟨2, a, e, b, c, g, s, n, t, w, ev, sr, d⟩ 2 (by decide) (by decide)
    have hz := hv e (by simp [valsK, idxK, getN])
    have u1 := rUintZ e hz.1 hz.2
    conv => whnf
    iterate 9
      repeat' (first | exact True.intro | ((first | refine ⟨2, (by decide), rfl, ?_⟩ | refine Yb fun _ => ?_ | refine Yc fun _ => ?_ | refine Ya (by kernel_rfl) ?_ | refine Ya (by decide) ?_ | refine Yd (by decide) fun _ => ?_ | refine Ye (by decide) fun _ => ?_ | refine ⟨_, _, n1.at1 0 rfl rfl rfl, ?_⟩ | refine ⟨_, _, u1.nw rfl, ?_⟩ | refine ⟨_, _, ap1 rfl rfl (hap 2 e), ?_⟩); conv => whnf) | (refine Ya (fun _ => ?_) (fun _ => ?_) <;> conv => whnf))
      all_goals try (refine Or.inl ?_; conv => whnf)
    refine ⟨3, show 3 ≤ 3 by decide, show 3 - 3 < 3 - 2 by decide, ?_⟩
    all_goals refine ⟨[(1, 3)], ?_⟩
    repeat (any_goals (first | exact True.intro | exact rfl | exact (by kernel_rfl) | refine Ya ?_ ?_))
    all_goals conv => whnf
    all_goals exact congrArg (fun z : Bt => AObj.sl 1 (z.map bR)) (by simp [valsK, idxK, getN, fldT])
  · have se : CallOK Tryz.prog 72 [.own 1] [.cells (frA ⟨2, a, e, b, c, g, s, n, t, w, ev, sr, d⟩), .sl 1 ((enc 2 ++ fldT ((valsK ⟨2, a, e, b, c, g, s, n, t, w, ev, sr, d⟩ 2).take 3)).map bR)] 2 ⟨[1], [], [.sl 1 ((sealT (enc 2 ++ fldT ((valsK ⟨2, a, e, b, c, g, s, n, t, w, ev, sr, d⟩ 2).take 3))).map bR)]⟩ (.own 2) := lendON sl rfl (bR_flats _)
    conv => whnf
    iterate 6
      repeat' (first | exact True.intro | ((first | refine Yb fun _ => ?_ | refine Yc fun _ => ?_ | refine Ya (by kernel_rfl) ?_ | refine Ya (by decide) ?_ | refine Yd (by decide) fun _ => ?_ | refine Ye (by decide) fun _ => ?_ | refine ⟨_, _, se, ?_⟩); conv => whnf) | (refine Ya (fun _ => ?_) (fun _ => ?_) <;> conv => whnf))
      all_goals try (refine Or.inl ?_; conv => whnf)
    all_goals try exact (bnl ‹_› d9).elim
    all_goals refine ⟨[(0, 2)], ?_⟩
    repeat (any_goals (first | exact True.intro | exact rfl | exact (by kernel_rfl) | refine Ya ?_ ?_))
    all_goals conv => whnf
def gr0 : Fr := ⟨2, 3, 7, 4, 0, 0, 0, 0, 0, 0, [], ([], []), []⟩
theorem gr0_right : rightF gr0 = true := by decide +kernel
theorem gr0_ok : FrOk gr0 := ⟨⟨by decide, by decide⟩, ⟨by decide, by decide⟩, ⟨by decide, by decide⟩, ⟨by decide, by decide⟩, ⟨by decide, by decide⟩, ⟨by decide, by decide⟩, ⟨by decide, by decide⟩, ⟨by decide, by decide⟩, ⟨by decide, by decide⟩, ⟨by decide, by decide⟩, by decide, (fun x hx => by cases hx), by decide⟩
set_option maxHeartbeats 8000000 in
theorem rRight_gr0 : Sat Tryz.prog 65 [.d (frD gr0)] [] (bA true) [] := by
  have h0 := has_sat 2 (by decide) (by decide)
  have n0 := number_sat gr0 1 (by decide) (by decide)
  have i0 := in_sat (hasT 2) (ltrN 1) (by decide)
  rw [show (hasT 2).contains (ltrN 1) = true by decide] at i0
  have n1 := number_sat gr0 2 (by decide) (by decide)
  have i1 := in_sat (hasT 2) (ltrN 2) (by decide)
  rw [show (hasT 2).contains (ltrN 2) = true by decide] at i1
  have n2 := number_sat gr0 3 (by decide) (by decide)
  have i2 := in_sat (hasT 2) (ltrN 3) (by decide)
  rw [show (hasT 2).contains (ltrN 3) = true by decide] at i2
  have n3 := number_sat gr0 4 (by decide) (by decide)
  have i3 := in_sat (hasT 2) (ltrN 4) (by decide)
  rw [show (hasT 2).contains (ltrN 4) = false by decide] at i3
  have n4 := number_sat gr0 5 (by decide) (by decide)
  have i4 := in_sat (hasT 2) (ltrN 5) (by decide)
  rw [show (hasT 2).contains (ltrN 5) = false by decide] at i4
  have n5 := number_sat gr0 6 (by decide) (by decide)
  have i5 := in_sat (hasT 2) (ltrN 6) (by decide)
  rw [show (hasT 2).contains (ltrN 6) = false by decide] at i5
  have n6 := number_sat gr0 7 (by decide) (by decide)
  have i6 := in_sat (hasT 2) (ltrN 7) (by decide)
  rw [show (hasT 2).contains (ltrN 7) = false by decide] at i6
  have n7 := number_sat gr0 8 (by decide) (by decide)
  have i7 := in_sat (hasT 2) (ltrN 8) (by decide)
  rw [show (hasT 2).contains (ltrN 8) = false by decide] at i7
  have n8 := number_sat gr0 9 (by decide) (by decide)
  have i8 := in_sat (hasT 2) (ltrN 9) (by decide)
  rw [show (hasT 2).contains (ltrN 9) = false by decide] at i8
  have t3 := time_sat 3
  rw [show rngB 3 = true by decide] at t3
  have t7 := time_sat 7
  rw [show rngB 7 = true by decide] at t7
  have t4 := time_sat 4
  rw [show rngB 4 = true by decide] at t4
  have t0 := time_sat 0
  rw [show rngB 0 = true by decide] at t0
  refine sat_of_vc (T := tiOf Tryz.prog) (E := E0) Tryz.func65 rfl rfl hE0 hm0 rfl ?_
  conv => whnf
  iterate 5
    repeat' (first | exact True.intro | ((first | refine Yb fun _ => ?_ | refine Yc fun _ => ?_ | refine Ya (by kernel_rfl) ?_ | refine Ya (by decide) ?_ | refine Yd (by decide) fun _ => ?_ | refine Ye (by decide) fun _ => ?_ | refine ⟨_, _, h0.pu rfl rfl, ?_⟩ | refine ⟨_, _, eqT, ?_⟩); conv => whnf) | (refine Ya (fun _ => ?_) (fun _ => ?_) <;> conv => whnf))
    all_goals try (refine Or.inl ?_; conv => whnf)
  all_goals try exact absurd ‹decide _ = true› (by decide)
  refine ⟨Nat, fun i => i ≤ 9, fun i => ([(4, iA i), (3, .d (tD (hasT 2))), (1, .ptr 0 0)], [.cells (frA gr0)]), fun i => 9 - i, ⟨0, Nat.zero_le _, ?_⟩, ?_⟩
  · all_goals refine ⟨[], ?_⟩
    repeat (any_goals (first | exact True.intro | exact rfl | exact (by kernel_rfl) | refine Ya ?_ ?_))
    all_goals conv => whnf
  intro i hi
  have hi : i ≤ 9 := hi
  have hc : i = 0 ∨ i = 1 ∨ i = 2 ∨ i = 3 ∨ i = 4 ∨ i = 5 ∨ i = 6 ∨ i = 7 ∨ i = 8 ∨ i = 9 := by omega
  rcases hc with rfl | rfl | rfl | rfl | rfl | rfl | rfl | rfl | rfl | rfl
  · conv => whnf
    iterate 7
      repeat' (first | exact True.intro | ((first | refine ⟨0, (by decide), rfl, ?_⟩ | refine Yb fun _ => ?_ | refine Yc fun _ => ?_ | refine Ya (by kernel_rfl) ?_ | refine Ya (by decide) ?_ | refine Yd (by decide) fun _ => ?_ | refine Ye (by decide) fun _ => ?_ | refine ⟨_, _, n0.at1 0 rfl rfl rfl, ?_⟩ | refine ⟨_, _, i0.pu rfl rfl, ?_⟩ | refine ⟨_, _, t3.pu rfl rfl, ?_⟩); conv => whnf) | (refine Ya (fun _ => ?_) (fun _ => ?_) <;> conv => whnf))
      all_goals try (refine Or.inl ?_; conv => whnf)
    refine ⟨1, (by decide), (by decide), ?_⟩
    all_goals refine ⟨[], ?_⟩
    repeat (any_goals (first | exact True.intro | exact rfl | exact (by kernel_rfl) | refine Ya ?_ ?_))
    all_goals conv => whnf
  · conv => whnf
    iterate 7
      repeat' (first | exact True.intro | ((first | refine ⟨1, (by decide), rfl, ?_⟩ | refine Yb fun _ => ?_ | refine Yc fun _ => ?_ | refine Ya (by kernel_rfl) ?_ | refine Ya (by decide) ?_ | refine Yd (by decide) fun _ => ?_ | refine Ye (by decide) fun _ => ?_ | refine ⟨_, _, n1.at1 0 rfl rfl rfl, ?_⟩ | refine ⟨_, _, i1.pu rfl rfl, ?_⟩ | refine ⟨_, _, t7.pu rfl rfl, ?_⟩); conv => whnf) | (refine Ya (fun _ => ?_) (fun _ => ?_) <;> conv => whnf))
      all_goals try (refine Or.inl ?_; conv => whnf)
    refine ⟨2, (by decide), (by decide), ?_⟩
    all_goals refine ⟨[], ?_⟩
    repeat (any_goals (first | exact True.intro | exact rfl | exact (by kernel_rfl) | refine Ya ?_ ?_))
    all_goals conv => whnf
  · conv => whnf
    iterate 7
      repeat' (first | exact True.intro | ((first | refine ⟨2, (by decide), rfl, ?_⟩ | refine Yb fun _ => ?_ | refine Yc fun _ => ?_ | refine Ya (by kernel_rfl) ?_ | refine Ya (by decide) ?_ | refine Yd (by decide) fun _ => ?_ | refine Ye (by decide) fun _ => ?_ | refine ⟨_, _, n2.at1 0 rfl rfl rfl, ?_⟩ | refine ⟨_, _, i2.pu rfl rfl, ?_⟩ | refine ⟨_, _, t4.pu rfl rfl, ?_⟩); conv => whnf) | (refine Ya (fun _ => ?_) (fun _ => ?_) <;> conv => whnf))
      all_goals try (refine Or.inl ?_; conv => whnf)
    refine ⟨3, (by decide), (by decide), ?_⟩
    all_goals refine ⟨[], ?_⟩
    repeat (any_goals (first | exact True.intro | exact rfl | exact (by kernel_rfl) | refine Ya ?_ ?_))
    all_goals conv => whnf
  · conv => whnf
    iterate 7
      repeat' (first | exact True.intro | ((first | refine ⟨3, (by decide), rfl, ?_⟩ | refine Yb fun _ => ?_ | refine Yc fun _ => ?_ | refine Ya (by kernel_rfl) ?_ | refine Ya (by decide) ?_ | refine Yd (by decide) fun _ => ?_ | refine Ye (by decide) fun _ => ?_ | refine ⟨_, _, n3.at1 0 rfl rfl rfl, ?_⟩ | refine ⟨_, _, i3.pu rfl rfl, ?_⟩ | refine ⟨_, _, t0.pu rfl rfl, ?_⟩); conv => whnf) | (refine Ya (fun _ => ?_) (fun _ => ?_) <;> conv => whnf))
      all_goals try (refine Or.inl ?_; conv => whnf)
    refine ⟨4, (by decide), (by decide), ?_⟩
    all_goals refine ⟨[], ?_⟩
    repeat (any_goals (first | exact True.intro | exact rfl | exact (by kernel_rfl) | refine Ya ?_ ?_))
    all_goals conv => whnf
  · conv => whnf
    iterate 7
      repeat' (first | exact True.intro | ((first | refine ⟨4, (by decide), rfl, ?_⟩ | refine Yb fun _ => ?_ | refine Yc fun _ => ?_ | refine Ya (by kernel_rfl) ?_ | refine Ya (by decide) ?_ | refine Yd (by decide) fun _ => ?_ | refine Ye (by decide) fun _ => ?_ | refine ⟨_, _, n4.at1 0 rfl rfl rfl, ?_⟩ | refine ⟨_, _, i4.pu rfl rfl, ?_⟩ | refine ⟨_, _, t0.pu rfl rfl, ?_⟩); conv => whnf) | (refine Ya (fun _ => ?_) (fun _ => ?_) <;> conv => whnf))
      all_goals try (refine Or.inl ?_; conv => whnf)
    refine ⟨5, (by decide), (by decide), ?_⟩
    all_goals refine ⟨[], ?_⟩
    repeat (any_goals (first | exact True.intro | exact rfl | exact (by kernel_rfl) | refine Ya ?_ ?_))
    all_goals conv => whnf
  · conv => whnf
    iterate 7
      repeat' (first | exact True.intro | ((first | refine ⟨5, (by decide), rfl, ?_⟩ | refine Yb fun _ => ?_ | refine Yc fun _ => ?_ | refine Ya (by kernel_rfl) ?_ | refine Ya (by decide) ?_ | refine Yd (by decide) fun _ => ?_ | refine Ye (by decide) fun _ => ?_ | refine ⟨_, _, n5.at1 0 rfl rfl rfl, ?_⟩ | refine ⟨_, _, i5.pu rfl rfl, ?_⟩ | refine ⟨_, _, t0.pu rfl rfl, ?_⟩); conv => whnf) | (refine Ya (fun _ => ?_) (fun _ => ?_) <;> conv => whnf))
      all_goals try (refine Or.inl ?_; conv => whnf)
    refine ⟨6, (by decide), (by decide), ?_⟩
    all_goals refine ⟨[], ?_⟩
    repeat (any_goals (first | exact True.intro | exact rfl | exact (by kernel_rfl) | refine Ya ?_ ?_))
    all_goals conv => whnf
  · conv => whnf
    iterate 7
      repeat' (first | exact True.intro | ((first | refine ⟨6, (by decide), rfl, ?_⟩ | refine Yb fun _ => ?_ | refine Yc fun _ => ?_ | refine Ya (by kernel_rfl) ?_ | refine Ya (by decide) ?_ | refine Yd (by decide) fun _ => ?_ | refine Ye (by decide) fun _ => ?_ | refine ⟨_, _, n6.at1 0 rfl rfl rfl, ?_⟩ | refine ⟨_, _, i6.pu rfl rfl, ?_⟩ | refine ⟨_, _, t0.pu rfl rfl, ?_⟩); conv => whnf) | (refine Ya (fun _ => ?_) (fun _ => ?_) <;> conv => whnf))
      all_goals try (refine Or.inl ?_; conv => whnf)
    refine ⟨7, (by decide), (by decide), ?_⟩
    all_goals refine ⟨[], ?_⟩
    repeat (any_goals (first | exact True.intro | exact rfl | exact (by kernel_rfl) | refine Ya ?_ ?_))
    all_goals conv => whnf
  · conv => whnf
    iterate 7
      repeat' (first | exact True.intro | ((first | refine ⟨7, (by decide), rfl, ?_⟩ | refine Yb fun _ => ?_ | refine Yc fun _ => ?_ | refine Ya (by kernel_rfl) ?_ | refine Ya (by decide) ?_ | refine Yd (by decide) fun _ => ?_ | refine Ye (by decide) fun _ => ?_ | refine ⟨_, _, n7.at1 0 rfl rfl rfl, ?_⟩ | refine ⟨_, _, i7.pu rfl rfl, ?_⟩ | refine ⟨_, _, t0.pu rfl rfl, ?_⟩); conv => whnf) | (refine Ya (fun _ => ?_) (fun _ => ?_) <;> conv => whnf))
      all_goals try (refine Or.inl ?_; conv => whnf)
    refine ⟨8, (by decide), (by decide), ?_⟩
    all_goals refine ⟨[], ?_⟩
    repeat (any_goals (first | exact True.intro | exact rfl | exact (by kernel_rfl) | refine Ya ?_ ?_))
    all_goals conv => whnf
  · conv => whnf
    iterate 7
      repeat' (first | exact True.intro | ((first | refine ⟨8, (by decide), rfl, ?_⟩ | refine Yb fun _ => ?_ | refine Yc fun _ => ?_ | refine Ya (by kernel_rfl) ?_ | refine Ya (by decide) ?_ | refine Yd (by decide) fun _ => ?_ | refine Ye (by decide) fun _ => ?_ | refine ⟨_, _, n8.at1 0 rfl rfl rfl, ?_⟩ | refine ⟨_, _, i8.pu rfl rfl, ?_⟩ | refine ⟨_, _, t0.pu rfl rfl, ?_⟩); conv => whnf) | (refine Ya (fun _ => ?_) (fun _ => ?_) <;> conv => whnf))
      all_goals try (refine Or.inl ?_; conv => whnf)
    refine ⟨9, (by decide), (by decide), ?_⟩
    all_goals refine ⟨[], ?_⟩
    repeat (any_goals (first | exact True.intro | exact rfl | exact (by kernel_rfl) | refine Ya ?_ ?_))
    all_goals conv => whnf
  conv => whnf
  iterate 10
    repeat' (first | exact True.intro | ((first | refine Yb fun _ => ?_ | refine Yc fun _ => ?_ | refine Ya (by kernel_rfl) ?_ | refine Ya (by decide) ?_ | refine Yd (by decide) fun _ => ?_ | refine Ye (by decide) fun _ => ?_); conv => whnf) | (refine Ya (fun _ => ?_) (fun _ => ?_) <;> conv => whnf))
    all_goals try (refine Or.inl ?_; conv => whnf)
  refine ⟨Unit, fun _ => True, fun _ => ([(6, iA 0), (1, .ptr 0 0)], [.cells (frA gr0)]), fun _ => 0, ⟨(), trivial, ?_⟩, ?_⟩
  · all_goals refine ⟨[], ?_⟩
    repeat (any_goals (first | exact True.intro | exact rfl | exact (by kernel_rfl) | refine Ya ?_ ?_))
    all_goals conv => whnf
  rintro ⟨⟩ _
  conv => whnf
  iterate 10
    repeat' (first | exact True.intro | ((first | refine Yb fun _ => ?_ | refine Yc fun _ => ?_ | refine Ya (by kernel_rfl) ?_ | refine Ya (by decide) ?_ | refine Yd (by decide) fun _ => ?_ | refine Ye (by decide) fun _ => ?_ | refine ⟨_, _, eqT, ?_⟩); conv => whnf) | (refine Ya (fun _ => ?_) (fun _ => ?_) <;> conv => whnf))
    all_goals try (refine Or.inl ?_; conv => whnf)
  all_goals try exact absurd ‹decide _ = false› (by decide)
  all_goals refine ⟨[], ?_⟩
  repeat (any_goals (first | exact True.intro | exact rfl | exact (by kernel_rfl) | refine Ya ?_ ?_))
  all_goals conv => whnf
def sM : Ser := ([109], [])
def aA1 : Ag := newA 3 2 4
def aA2 : Ag := { aA1 with clock := 5 }
def aA3 : Ag := { aA1 with clock := 6, epoch := 7 }
def aA4 : Ag := { aA1 with clock := 9, epoch := 7, kept := [(9, -1, sM)], seq := 1 }
def aA5 : Ag := { aA1 with clock := 9, epoch := 7, kept := [(9, -1, sM), (9, 2, sM)], seq := 2 }
def aA6 : Ag := { aA5 with dropped := 1 }
theorem gr0_len : (encodeT gr0).length ≤ 65536 := small_len (k := 2) rfl (by decide) rfl
theorem aI1 : AgInv aA1 := newA_inv ⟨by decide, by decide⟩ ⟨by decide, by decide⟩ ⟨by decide, by decide⟩
theorem aS0 : startA (newA 3 2 0) 4 = (aA1, 0) := rfl
theorem aS1 : stepA aA1 5 = (aA2, [encodeT (helloF aA2)], 0) := rfl
theorem aI2 : AgInv aA2 := by have := step_inv aI1 5; rw [aS1] at this; exact this
theorem aT2 : takeA aA2 6 (encodeT gr0) = (aA3, 0) := by
  have hd := decode_enc gr0_right (fun x hx => by cases hx) gr0_len
  unfold takeA
  rw [hd]
  rfl
theorem aI3 : AgInv aA3 := by have := take_inv aI2 6 (encodeT gr0); rw [aT2] at this; exact this
theorem aM3 : measureA aA3 9 (-1) sM = (aA4, 0, 0) := by kernel_rfl
theorem aI4 : AgInv aA4 := by have := measure_inv aI3 9 (-1) sM ⟨by decide, by decide⟩; rw [aM3] at this; exact this
theorem aM4 : measureA aA4 8 2 sM = (aA5, 1, 0) := by kernel_rfl
theorem aI5 : AgInv aA5 := by have := measure_inv aI4 8 2 sM ⟨by decide, by decide⟩; rw [aM4] at this; exact this
theorem aM5 : measureA aA5 8 2 sM = (aA6, -1, 20) := by kernel_rfl
theorem aI6 : AgInv aA6 := by have := measure_inv aI5 8 2 sM ⟨by decide, by decide⟩; rw [aM5] at this; exact this
theorem aO6 : observeA aA6 9 = (aA6, 0) := by kernel_rfl
theorem bat2_len : (encodeT (batchF aA6 2)).length ≤ 65536 := by
  have h := frT_len5 (batchF aA6 2)
  have hl : (batchF aA6 2).ev.length = 2 := rfl
  rw [hl] at h
  unfold encodeT
  rw [sealT_len]
  show (frT (batchF aA6 2) 5).length + 4 ≤ _
  omega
theorem aS6 : sentA aA6 = [encodeT (batchF aA6 2), encodeT (beatF aA6)] := by
  have hm : mostB aA6 2 = 2 := mostB_at (by decide) bat2_len
  have hb : batT aA6 = [encodeT (batchF aA6 2)] := by
    rw [bat_some (by intro h; cases h)]
    show [encodeT (batchF aA6 (mostB aA6 2))] = _
    rw [hm]
  rw [sent_run aA6 (by decide), hb]
  rfl
theorem aT6 : (stepA aA6 9).1 = aA6 := by
  unfold stepA
  rw [aO6]
  rfl
theorem aD1 : decodeF (encodeT (batchF aA6 2)) = (batchF aA6 2, 0) := decode_enc (batch_right aI6 (by decide) (by decide) (by decide)) (fun x hx => (aI6.ev x (List.mem_of_mem_take hx)).2.1) bat2_len
theorem aD2 : decodeF (encodeT (beatF aA6)) = (beatF aA6, 0) := decode_enc (beat_right aI6) (fun x hx => by cases hx) (small_len (k := 7) rfl (by decide) rfl)
theorem aS7 : startA aA6 4 = (aA6, 22) := rfl
theorem aS8 : startA aA6 5 = (newA 3 2 5, 0) := rfl
set_option maxHeartbeats 16000000 in
theorem alive14 : Sat Tryz.prog 8 [] [] (bA true) [] := by
  have n1 := agNew_ok 3 2 (by decide)
  have s1 := start_sat (newA 3 2 0) 4
  rw [aS0] at s1
  have p1 := step_yes aA1 5 aI1 rfl
  rw [aS1] at p1
  have p1 : Sat Tryz.prog 22 [.ptr 0 0, iA 5] (agH aA1) (.tup [.own 4, iA 0]) (agH5 aA2 [encodeT (helloF aA2)]) := p1
  have e1 : ∀ L n, CallOK Tryz.prog 31 [.d (.agg (nilR gr0))] L n ⟨[], [], [.dead]⟩ (.tup [.d (bsD (encodeT gr0)), iA 0]) := fun L n => CallOK.frzT (Sat.nw ((rEncode_2 gr0 rfl gr0_ok gr0_right rRight_gr0).pre fun w F ρ vs h => by
    cases h with | cons h1 h2 =>
    cases h1 with | d h1 => exact .cons (.d (h1.nilLe (bare_le (f := gr0) ⟨rfl, rfl, rfl⟩))) h2) rfl)
  have t1 := take_satA aA2 6 (encodeT gr0) (by decide) (by decide) (by decide)
  rw [aT2] at t1
  have mp : ∀ {r v : Int} {H H' : List AObj} {x : AV}, Sat Tryz.prog 32 [.ptr 0 0, iA r, iA v, .d (serD sM)] H x H' → Sat Tryz.prog 32 [.ptr 0 0, iA r, iA v, .d (.agg [tD [109], nilV])] H x H' := fun h => h.pre fun w F ρ vs h => by
    cases h with | cons h1 h2 =>
    cases h2 with | cons h2 h3 =>
    cases h3 with | cons h3 h4 =>
    cases h4 with | cons h4 h5 =>
    cases h4 with | d h4 => exact .cons h1 (.cons h2 (.cons h3 (.cons (.d (h4.nilLe (ys := [tD [109], .sl 2 []]) (by repeat' (first | exact trivial | refine And.intro ?_ ?_ | exact .inl rfl | exact .inr ⟨rfl, _, rfl⟩)))) h5)))
  have m1 := measure_sat aA3 9 (-1) sM (by decide) (by decide)
  rw [aM3] at m1
  have m1 := mp m1
  have m2 := measure_sat aA4 8 2 sM (by decide) (by decide)
  rw [aM4] at m2
  have m2 := mp m2
  have m3 := measure_sat aA5 8 2 sM (by decide) (by decide)
  rw [aM5] at m3
  have m3 := mp m3
  have p2 := step_yes aA6 9 aI6 (by rw [aO6])
  rw [aO6, aT6] at p2
  rw [show sentA (aA6, 0).1 = [encodeT (batchF aA6 2), encodeT (beatF aA6)] from aS6] at p2
  have d1 := decode_sat (encodeT (batchF aA6 2))
  rw [aD1] at d1
  have d2 := decode_sat (encodeT (beatF aA6))
  rw [aD2] at d2
  have c1 := agClone_sat aA6 (by decide) (by decide) (by decide)
  have s2 := start_sat aA6 4
  rw [aS7] at s2
  have s3 := start_sat aA6 5
  rw [aS8] at s3
  generalize encodeT gr0 = b0 at *
  generalize encodeT (helloF aA2) = b1 at *
  generalize encodeT (batchF aA6 2) = b2 at *
  generalize encodeT (beatF aA6) = b3 at *
  have ce := agEpoch_sat aA6
  have cs := agSeq_sat aA6
  have cd := agDropped_sat aA6
  have ck := kept_sat aA6 (by decide) (by decide)
  have ae := agEpoch_sat (newA 3 2 5)
  have ab := agBoot_sat (newA 3 2 5)
  have ai := agId_sat (newA 3 2 5)
  have ac := agClock_sat (newA 3 2 5)
  have af := agFirst_sat (newA 3 2 5) ⟨by decide, by decide⟩
  have ap := agProbes_sat (newA 3 2 5)
  have dl1 : (((([b1].map (fun b => [bsD b])).length : Nat) : Int) != 1) = false := rfl
  refine sat_of_vc (T := tiOf Tryz.prog) (E := E0) Tryz.func8 rfl rfl hE0 hm0 rfl ?_
  conv => whnf
  iterate 12
    repeat' (first | exact True.intro | ((first | refine Yb fun _ => ?_ | refine Yc fun _ => ?_ | refine Ya (by kernel_rfl) ?_ | refine Ya (by decide) ?_ | refine Yd (by decide) fun _ => ?_ | refine Ye (by decide) fun _ => ?_ | refine ⟨_, _, n1.nw rfl, ?_⟩ | refine ⟨_, _, eqP (by kernel_rfl), ?_⟩ | refine ⟨_, _, s1.at3 0 1 2 rfl rfl rfl rfl rfl rfl, ?_⟩ | refine ⟨_, _, p1.at3 0 3 4 rfl rfl rfl rfl rfl rfl, ?_⟩ | refine ⟨_, _, e1 _ _, ?_⟩ | refine ⟨_, _, t1.at3 0 5 7 rfl rfl rfl rfl rfl rfl, ?_⟩ | refine ⟨_, _, m1.at3 0 9 10 rfl rfl rfl rfl rfl rfl, ?_⟩ | refine ⟨_, _, m2.at3 0 12 13 rfl rfl rfl rfl rfl rfl, ?_⟩ | refine ⟨_, _, m3.at3 0 14 15 rfl rfl rfl rfl rfl rfl, ?_⟩ | refine ⟨_, _, p2.at3 0 16 17 rfl rfl rfl rfl rfl rfl, ?_⟩); conv => whnf) | (refine Ya (fun _ => ?_) (fun _ => ?_) <;> conv => whnf))
    all_goals try (refine Or.inl ?_; conv => whnf)
  all_goals try exact (bnl ‹_› dl1).elim
  repeat' (first | exact True.intro | ((first | refine ⟨0, rfl, (show 0 < 2 by decide), ?_⟩ | refine ⟨1, rfl, (show 1 < 2 by decide), ?_⟩ | refine ⟨[bsD b2], rfl, ?_⟩ | refine ⟨[bsD b3], rfl, ?_⟩ | refine Yb fun _ => ?_ | refine Yc fun _ => ?_ | refine Ya (by kernel_rfl) ?_ | refine Ya (by decide) ?_ | refine Yd (by decide) fun _ => ?_ | refine Ye (by decide) fun _ => ?_ | refine ⟨_, _, d1.pu rfl rfl, ?_⟩ | refine ⟨_, _, d2.pu rfl rfl, ?_⟩ | refine ⟨_, _, c1.at3 0 18 20 rfl rfl rfl rfl rfl rfl, ?_⟩ | refine ⟨_, _, eqP (by kernel_rfl), ?_⟩); conv => whnf) | (refine Ya (fun _ => ?_) (fun _ => ?_) <;> conv => whnf))
  refine Or.inr ⟨Unit, fun _ => True, fun _ => ([(1, .ptr 0 0), (3, iA 0), (5, iA 0), (8, iA 0), (10, iA 0), (11, iA 0), (13, iA 20), (15, iA 0), (16, .ptr 21 0), (18, .ptr 22 0), (20, .ptr 23 0)], [.cells (agC aA6 (.own 18) (.own 20)), .dead, .dead, .dead, .dead, .dead, .dead, .dead, .dead, .dead, .dead, .dead, .dead, .dead, .dead, .dead, .dead, .dead, .sl 4 (aA6.kept.map evR), .dead, .sl 3 (aA6.probes.map prR), .cells (frA (batchF aA6 2)), .cells (frA (beatF aA6)), .cells (agC aA6 (.own 24) (.own 25)), .sl 4 (aA6.kept.map evR), .sl 3 (aA6.probes.map prR)]), ?_, fun _ _ => ?_⟩
  · conv => whnf
    iterate 4
      repeat' (first | exact True.intro | ((first | refine Yb fun _ => ?_ | refine Yc fun _ => ?_ | refine Ya (by kernel_rfl) ?_ | refine Ya (by decide) ?_ | refine Yd (by decide) fun _ => ?_ | refine Ye (by decide) fun _ => ?_ | refine ⟨_, _, eqP (by kernel_rfl), ?_⟩); conv => whnf) | (refine Ya (fun _ => ?_) (fun _ => ?_) <;> conv => whnf))
      all_goals try (refine Or.inl ?_; conv => whnf)
    refine ⟨(), trivial, ?_⟩
    all_goals refine ⟨[], ?_⟩
    repeat (any_goals (first | exact True.intro | exact rfl | exact (by kernel_rfl) | refine Ya ?_ ?_))
    all_goals conv => whnf
  conv => whnf
  iterate 8
    repeat' (first | exact True.intro | ((first | refine ⟨1, _, rfl, rfl, ?_⟩ | refine Yb fun _ => ?_ | refine Yc fun _ => ?_ | refine Ya (by kernel_rfl) ?_ | refine Ya (by decide) ?_ | refine Yd (by decide) fun _ => ?_ | refine Ye (by decide) fun _ => ?_ | refine ⟨_, _, s2.at3 0 18 20 rfl rfl rfl rfl rfl rfl, ?_⟩ | refine ⟨_, _, s3.at3 0 26 27 rfl rfl rfl rfl rfl rfl, ?_⟩ | refine ⟨_, _, ce.at3 23 24 25 rfl rfl rfl rfl rfl rfl, ?_⟩ | refine ⟨_, _, cs.at3 23 24 25 rfl rfl rfl rfl rfl rfl, ?_⟩ | refine ⟨_, _, cd.at3 23 24 25 rfl rfl rfl rfl rfl rfl, ?_⟩ | refine ⟨_, _, ck.at3 23 24 25 rfl rfl rfl rfl rfl rfl, ?_⟩ | refine ⟨_, _, ae.at3 0 28 29 rfl rfl rfl rfl rfl rfl, ?_⟩ | refine ⟨_, _, ab.at3 0 28 29 rfl rfl rfl rfl rfl rfl, ?_⟩ | refine ⟨_, _, ai.at3 0 28 29 rfl rfl rfl rfl rfl rfl, ?_⟩ | refine ⟨_, _, ac.at3 0 28 29 rfl rfl rfl rfl rfl rfl, ?_⟩ | refine ⟨_, _, af.at3 0 28 29 rfl rfl rfl rfl rfl rfl, ?_⟩ | refine ⟨_, _, ap.at3 0 28 29 rfl rfl rfl rfl rfl rfl, ?_⟩); conv => whnf) | (refine Ya (fun _ => ?_) (fun _ => ?_) <;> conv => whnf))
    all_goals try (refine Or.inl ?_; conv => whnf)
  all_goals refine ⟨[], ?_⟩
  repeat (any_goals (first | exact True.intro | exact rfl | exact (by kernel_rfl) | refine Ya ?_ ?_))
  all_goals conv => whnf
theorem ty_strF {m : Nat} {t : TypeId} {ds : List D} (h : Ty Tryz.prog (m + 1) t ds) (hu : Tryz.prog.underlying t = some .string) : ∃ l : Bt, ds = [tD l] := by
  have h : TyB (Ty Tryz.prog m) Tryz.prog t ds := h
  unfold TyB at h
  rw [hu] at h
  obtain ⟨s, rfl, _⟩ := h
  obtain ⟨l, hl⟩ := str_list s
  exact ⟨l, by rw [hl]⟩
theorem ty_longF {m : Nat} {t : TypeId} {ds : List D} (h : Ty Tryz.prog (m + 1) t ds) (hu : Tryz.prog.underlying t = some (.int .i64)) : ∃ z, ds = [iD z] ∧ in64 z := by
  have h : TyB (Ty Tryz.prog m) Tryz.prog t ds := h
  unfold TyB at h
  rw [hu] at h
  obtain ⟨z, rfl, hz⟩ := h
  exact ⟨z, rfl, by
    have hz : IntKind.i64.min ≤ z ∧ z ≤ IntKind.i64.max := by simpa [Lit.wf] using hz
    exact hz⟩
theorem ty_byF {m : Nat} {t : TypeId} {ds : List D} (h : Ty Tryz.prog (m + 1) t ds) (hu : Tryz.prog.underlying t = some (.int .u8)) : ∃ y : UInt8, ds = bR y := by
  have h : TyB (Ty Tryz.prog m) Tryz.prog t ds := h
  unfold TyB at h
  rw [hu] at h
  obtain ⟨z, rfl, hz⟩ := h
  have hz : IntKind.u8.min ≤ z ∧ z ≤ IntKind.u8.max := by simpa [Lit.wf] using hz
  have hz : 0 ≤ z ∧ z ≤ 255 := hz
  refine ⟨UInt8.ofNat z.toNat, ?_⟩
  have : ((UInt8.ofNat z.toNat).toNat : Int) = z := by rw [UInt8.toNat_ofNat']; omega
  show [D.v (.int .u8 z)] = [D.v (.int .u8 ((UInt8.ofNat z.toNat).toNat : Int))]
  rw [this]
theorem ty_labF {m : Nat} {ds : List D} (h : Ty Tryz.prog (m + 2) 86 ds) : ∃ l : Lab, ds = labR l := by
  have h : TyB (Ty Tryz.prog (m + 1)) Tryz.prog 86 ds := h
  unfold TyB at h
  rw [Tryz.underlying86] at h
  obtain ⟨dss, e0, h⟩ := h
  obtain ⟨d1, r1, e1, h1, h⟩ := h
  obtain ⟨d2, r2, e2, h2, h⟩ := h
  obtain rfl : r2 = [] := h
  subst e2 e1 e0
  obtain ⟨a, rfl⟩ := ty_strF h1 Tryz.underlying9
  obtain ⟨b, rfl⟩ := ty_strF h2 Tryz.underlying9
  exact ⟨(a, b), rfl⟩
theorem ty_serF {m : Nat} {ds : List D} (h : Ty Tryz.prog (m + 4) 35 ds) : ∃ s : Ser, ds = [tD s.1, .sl 2 (s.2.map labR)] := by
  have h : TyB (Ty Tryz.prog (m + 3)) Tryz.prog 35 ds := h
  unfold TyB at h
  rw [Tryz.underlying35] at h
  obtain ⟨dss, e0, h⟩ := h
  obtain ⟨d1, r1, e1, h1, h⟩ := h
  obtain ⟨d2, r2, e2, h2, h⟩ := h
  obtain rfl : r2 = [] := h
  subst e2 e1 e0
  obtain ⟨a, rfl⟩ := ty_strF h1 Tryz.underlying9
  have h2 : TyB (Ty Tryz.prog (m + 2)) Tryz.prog 33 d2 := h2
  unfold TyB at h2
  rw [Tryz.underlying33] at h2
  obtain ⟨rows, rfl, hr, _⟩ := h2
  obtain ⟨l, rfl, _⟩ := rows_map (f := labR) (p := fun _ => True) fun r hr' => by
    obtain ⟨y, hy⟩ := ty_labF (m := m) (hr r hr')
    exact ⟨y, hy, trivial⟩
  exact ⟨(a, l), rfl⟩
def clIn (c : Cl) : Prop := in64 c.what ∧ in64 c.boot ∧ in64 c.read ∧ in64 c.val
theorem ty_clF {ds : List D} (h : Ty Tryz.prog 8 38 ds) : ∃ c : Cl, ds = clR c ∧ clIn c := by
  have h : TyB (Ty Tryz.prog 7) Tryz.prog 38 ds := h
  unfold TyB at h
  rw [Tryz.underlying38] at h
  obtain ⟨dss, e0, h⟩ := h
  obtain ⟨d1, r1, e1, h1, h⟩ := h
  obtain ⟨d2, r2, e2, h2, h⟩ := h
  obtain ⟨d3, r3, e3, h3, h⟩ := h
  obtain ⟨d4, r4, e4, h4, h⟩ := h
  obtain ⟨d5, r5, e5, h5, h⟩ := h
  obtain ⟨d6, r6, e6, h6, h⟩ := h
  obtain rfl : r6 = [] := h
  subst e6 e5 e4 e3 e2 e1 e0
  obtain ⟨z1, rfl, i1⟩ := ty_longF (m := 6) h1 Tryz.underlying3
  obtain ⟨z2, rfl, i2⟩ := ty_longF (m := 6) h2 Tryz.underlying2
  obtain ⟨z3, rfl, i3⟩ := ty_longF (m := 6) h3 Tryz.underlying2
  obtain ⟨z4, rfl, i4⟩ := ty_longF (m := 6) h4 Tryz.underlying2
  obtain ⟨s, rfl⟩ := ty_serF (m := 3) h5
  have h6 : TyB (Ty Tryz.prog 6) Tryz.prog 36 d6 := h6
  unfold TyB at h6
  rw [Tryz.underlying36] at h6
  obtain ⟨rows, rfl, hr, _⟩ := h6
  obtain ⟨d, rfl, _⟩ := rows_map (f := bR) (p := fun _ => True) fun r hr' => by
    obtain ⟨y, hy⟩ := ty_byF (m := 5) (hr r hr') Tryz.underlying5
    exact ⟨y, hy, trivial⟩
  exact ⟨⟨z1, z2, z3, z4, s, d⟩, rfl, i1, i2, i3, i4⟩
theorem ty_calls {x : D} (h : TyV Tryz.prog 22 x) : ∃ l : List Cl, x = .sl 7 (l.map clR) ∧ ∀ c ∈ l, clIn c := by
  obtain ⟨rows, rfl, hr, _⟩ := ty_slice h Tryz.underlying22
  obtain ⟨l, rfl, hl⟩ := rows_map (f := clR) (p := clIn) fun r hr' => ty_clF (hr r hr')
  exact ⟨l, rfl, hl⟩
def greatC (l : List Cl) : Bool := decide (l.length > 60) || l.any fun c => decide (c.bs.length > 3000) || greatB c.sr
theorem greatC_no {l : List Cl} (h : greatC l = false) (hl : ∀ c ∈ l, clIn c) : l.length ≤ 60 ∧ ∀ c ∈ l, clOk c := by
  unfold greatC at h
  simp only [Bool.or_eq_false_iff, decide_eq_false_iff_not, List.any_eq_false] at h
  refine ⟨by omega, fun c hc => ?_⟩
  have := h.2 c hc
  simp only [Bool.or_eq_true, decide_eq_true_eq, not_or, Bool.not_eq_true] at this
  exact ⟨(hl c hc).2.2.2, by omega, (great_no8 this.2).1⟩
set_option maxHeartbeats 4000000 in
theorem great14_sat (l : List Cl) : Sat Tryz.prog 9 [.d (.sl 7 (l.map clR))] [] (bA (greatC l)) [] := by
  have hm : (l.map clR).length = l.length := List.length_map _
  by_cases h1 : l.length > 60
  · rw [show greatC l = true by unfold greatC; rw [decide_eq_true h1, Bool.true_or]]
    have d0 : decide (((l.map clR).length : Int) > 60) = true := decide_eq_true (by rw [hm]; omega)
    refine sat_of_vc (T := tiOf Tryz.prog) (E := E0) Tryz.func9 rfl rfl hE0 hm0 rfl ?_
    conv => whnf
    iterate 4
      repeat' (first | exact True.intro | ((first | refine Yb fun _ => ?_ | refine Yc fun _ => ?_ | refine Ya (by kernel_rfl) ?_ | refine Ya (by decide) ?_ | refine Yd (by decide) fun _ => ?_ | refine Ye (by decide) fun _ => ?_); conv => whnf) | (refine Ya (fun _ => ?_) (fun _ => ?_) <;> conv => whnf))
      all_goals try (refine Or.inl ?_; conv => whnf)
    all_goals try exact (bnl d0 ‹_›).elim
    all_goals refine ⟨[], ?_⟩
    repeat (any_goals (first | exact True.intro | exact rfl | exact (by kernel_rfl) | refine Ya ?_ ?_))
    all_goals conv => whnf
  rw [show greatC l = l.any fun c => decide (c.bs.length > 3000) || greatB c.sr by unfold greatC; rw [decide_eq_false h1, Bool.false_or]]
  have d0 : decide (((l.map clR).length : Int) > 60) = false := decide_eq_false (by rw [hm]; omega)
  refine sat_of_vc (T := tiOf Tryz.prog) (E := E0) Tryz.func9 rfl rfl hE0 hm0 rfl ?_
  conv => whnf
  iterate 4
    repeat' (first | exact True.intro | ((first | refine Yb fun _ => ?_ | refine Yc fun _ => ?_ | refine Ya (by kernel_rfl) ?_ | refine Ya (by decide) ?_ | refine Yd (by decide) fun _ => ?_ | refine Ye (by decide) fun _ => ?_); conv => whnf) | (refine Ya (fun _ => ?_) (fun _ => ?_) <;> conv => whnf))
    all_goals try (refine Or.inl ?_; conv => whnf)
  all_goals try exact (bnl ‹_› d0).elim
  refine ⟨Nat, fun i => i ≤ l.length ∧ ((l.take i).any fun c => decide (c.bs.length > 3000) || greatB c.sr) = false, fun i => ([(3, iA i), (0, .d (.sl 7 (l.map clR)))], []), fun i => l.length - i, ⟨0, ⟨Nat.zero_le _, rfl⟩, ?_⟩, ?_⟩
  · all_goals refine ⟨[], ?_⟩
    repeat (any_goals (first | exact True.intro | exact rfl | exact (by kernel_rfl) | refine Ya ?_ ?_))
    all_goals conv => whnf
  rintro i ⟨hi, hI⟩
  have hi : i ≤ l.length := hi
  have hI : ((l.take i).any fun c => decide (c.bs.length > 3000) || greatB c.sr) = false := hI
  conv => whnf
  by_cases hlt : i < l.length
  · have hx : l[i]? = some l[i] := List.getElem?_eq_getElem hlt
    generalize l[i] = x at hx
    have hgx := map_get (f := clR) hx
    have g2 := great8_sat x.sr
    have hb : (x.bs.map bR).length = x.bs.length := List.length_map _
    have d1 : decide ((i : Int) < ((l.map clR).length : Nat)) = true := decide_eq_true (by rw [hm]; omega)
    have d2 : decide (((x.bs.map bR).length : Int) > 3000) = decide (x.bs.length > 3000) := by rw [hb]; exact decide_eq_decide.2 (by omega)
    cases hc : (decide (x.bs.length > 3000) || greatB x.sr) with
    | true =>
      rw [show (l.any fun c => decide (c.bs.length > 3000) || greatB c.sr) = true by
        rw [List.any_eq_true]; exact ⟨x, List.mem_of_getElem? hx, hc⟩]
      cases h3 : decide (x.bs.length > 3000) with
      | true =>
        rw [h3] at d2
        iterate 5
          repeat' (first | exact True.intro | ((first | refine ⟨i, _, rfl, hgx, ?_⟩ | refine Yb fun _ => ?_ | refine Yc fun _ => ?_ | refine Ya (by kernel_rfl) ?_ | refine Ya (by decide) ?_ | refine Yd (by decide) fun _ => ?_ | refine Ye (by decide) fun _ => ?_ | refine ⟨_, _, g2.pu rfl rfl, ?_⟩); conv => whnf) | (refine Ya (fun _ => ?_) (fun _ => ?_) <;> conv => whnf))
          all_goals try (refine Or.inl ?_; conv => whnf)
        all_goals try exact (bnl d1 ‹_›).elim
        all_goals try exact (bnl d2 ‹_›).elim
        all_goals refine ⟨[], ?_⟩
        repeat (any_goals (first | exact True.intro | exact rfl | exact (by kernel_rfl) | refine Ya ?_ ?_))
        all_goals conv => whnf
      | false =>
        rw [h3] at d2
        have h4 : greatB x.sr = true := by rw [h3, Bool.false_or] at hc; exact hc
        rw [h4] at g2
        iterate 5
          repeat' (first | exact True.intro | ((first | refine ⟨i, _, rfl, hgx, ?_⟩ | refine Yb fun _ => ?_ | refine Yc fun _ => ?_ | refine Ya (by kernel_rfl) ?_ | refine Ya (by decide) ?_ | refine Yd (by decide) fun _ => ?_ | refine Ye (by decide) fun _ => ?_ | refine ⟨_, _, g2.pu rfl rfl, ?_⟩); conv => whnf) | (refine Ya (fun _ => ?_) (fun _ => ?_) <;> conv => whnf))
          all_goals try (refine Or.inl ?_; conv => whnf)
        all_goals try exact (bnl d1 ‹_›).elim
        all_goals try exact (bnl ‹_› d2).elim
        all_goals refine ⟨[], ?_⟩
        repeat (any_goals (first | exact True.intro | exact rfl | exact (by kernel_rfl) | refine Ya ?_ ?_))
        all_goals conv => whnf
    | false =>
      have hc' := hc
      rw [Bool.or_eq_false_iff] at hc
      rw [hc.1] at d2
      rw [hc.2] at g2
      iterate 5
        repeat' (first | exact True.intro | ((first | refine ⟨i, _, rfl, hgx, ?_⟩ | refine Yb fun _ => ?_ | refine Yc fun _ => ?_ | refine Ya (by kernel_rfl) ?_ | refine Ya (by decide) ?_ | refine Yd (by decide) fun _ => ?_ | refine Ye (by decide) fun _ => ?_ | refine ⟨_, _, g2.pu rfl rfl, ?_⟩); conv => whnf) | (refine Ya (fun _ => ?_) (fun _ => ?_) <;> conv => whnf))
        all_goals try (refine Or.inl ?_; conv => whnf)
      all_goals try exact (bnl d1 ‹_›).elim
      all_goals try exact (bnl ‹_› d2).elim
      refine ⟨i + 1, ⟨hlt, ?_⟩, show l.length - (i + 1) < l.length - i by omega, ?_⟩
      · rw [List.take_add_one, hx, List.any_append, hI]
        show (false || ((decide (x.bs.length > 3000) || greatB x.sr) || false)) = false
        rw [hc']; rfl
      all_goals refine ⟨[], ?_⟩
      repeat (any_goals (first | exact True.intro | exact rfl | exact (by kernel_rfl) | refine Ya ?_ ?_))
      all_goals conv => whnf
      exact wk1 (by omega)
  · have d1 : decide ((i : Int) < ((l.map clR).length : Nat)) = false := decide_eq_false (by rw [hm]; omega)
    rw [List.take_of_length_le (by omega : l.length ≤ i)] at hI
    rw [hI]
    iterate 5
      repeat' (first | exact True.intro | ((first | refine Yb fun _ => ?_ | refine Yc fun _ => ?_ | refine Ya (by kernel_rfl) ?_ | refine Ya (by decide) ?_ | refine Yd (by decide) fun _ => ?_ | refine Ye (by decide) fun _ => ?_); conv => whnf) | (refine Ya (fun _ => ?_) (fun _ => ?_) <;> conv => whnf))
      all_goals try (refine Or.inl ?_; conv => whnf)
    all_goals try exact (bnl ‹_› d1).elim
    all_goals refine ⟨[], ?_⟩
    repeat (any_goals (first | exact True.intro | exact rfl | exact (by kernel_rfl) | refine Ya ?_ ?_))
    all_goals conv => whnf
def playA (a : Ag) (l : List Cl) : Ag := l.foldl doA a
theorem playA_next {a : Ag} {l : List Cl} {i : Nat} {c : Cl} (h : l[i]? = some c) : playA a (l.take (i + 1)) = doA (playA a (l.take i)) c := by
  unfold playA
  rw [List.take_add_one, h, List.foldl_append]
  rfl
theorem play_inv {a : Ag} (h : AgInv a) : ∀ {l : List Cl}, (∀ c ∈ l, clOk c) → AgInv (playA a l)
  | [], _ => h
  | c :: l, hl => play_inv (do_inv h c (hl c (List.mem_cons_self ..)).1) (l := l) fun x hx => hl x (List.mem_cons_of_mem _ hx)
theorem play_take {a : Ag} (h : AgInv a) {l : List Cl} (hl : ∀ c ∈ l, clOk c) (i : Nat) : AgInv (playA a (l.take i)) := play_inv h fun c hc => hl c (List.mem_of_mem_take hc)
theorem observe_id (a : Ag) (r : Int) : (observeA a r).1.id = a.id ∧ (observeA a r).1.most = a.most ∧ (observeA a r).1.boot = a.boot := by
  unfold observeA
  split
  · exact ⟨rfl, rfl, rfl⟩
  · split <;> exact ⟨rfl, rfl, rfl⟩
theorem start_id (a : Ag) (b : Int) : (startA a b).1.id = a.id ∧ (startA a b).1.most = a.most := by
  unfold startA
  split
  · exact ⟨rfl, rfl⟩
  · split <;> exact ⟨rfl, rfl⟩
theorem measure_id (a : Ag) (r v : Int) (s : Ser) : (measureA a r v s).1.id = a.id ∧ (measureA a r v s).1.most = a.most ∧ (measureA a r v s).1.boot = a.boot ∧ (measureA a r v s).1.clock = (observeA a r).1.clock := by
  have h := observe_id a r
  unfold measureA
  simp only
  generalize observeA a r = A at *
  split
  · exact ⟨h.1, h.2.1, h.2.2, rfl⟩
  split
  · exact ⟨h.1, h.2.1, h.2.2, rfl⟩
  split
  · exact ⟨h.1, h.2.1, h.2.2, rfl⟩
  split
  · exact ⟨h.1, h.2.1, h.2.2, rfl⟩
  split <;> exact ⟨h.1, h.2.1, h.2.2, rfl⟩
theorem take_id (a : Ag) (r : Int) (b : Bt) : (takeA a r b).1.id = a.id ∧ (takeA a r b).1.most = a.most ∧ (takeA a r b).1.boot = a.boot ∧ (takeA a r b).1.clock = (observeA a r).1.clock := by
  have h := observe_id a r
  unfold takeA
  simp only
  generalize observeA a r = A at *
  split
  · exact ⟨h.1, h.2.1, h.2.2, rfl⟩
  split
  · exact ⟨h.1, h.2.1, h.2.2, rfl⟩
  split
  · exact ⟨h.1, h.2.1, h.2.2, rfl⟩
  split
  · exact ⟨h.1, h.2.1, h.2.2, rfl⟩
  generalize (decodeF b).1 = f
  unfold frameA
  split
  · unfold grantA
    split
    · exact ⟨h.1, h.2.1, h.2.2, rfl⟩
    split
    · exact ⟨h.1, h.2.1, h.2.2, rfl⟩
    split <;> exact ⟨h.1, h.2.1, h.2.2, rfl⟩
  split
  · unfold probeA
    split
    · exact ⟨h.1, h.2.1, h.2.2, rfl⟩
    split <;> exact ⟨h.1, h.2.1, h.2.2, rfl⟩
  · unfold ackA
    split
    · exact ⟨h.1, h.2.1, h.2.2, rfl⟩
    split <;> exact ⟨h.1, h.2.1, h.2.2, rfl⟩
theorem step_id (a : Ag) (r : Int) : (stepA a r).1.id = a.id ∧ (stepA a r).1.most = a.most ∧ (stepA a r).1.boot = a.boot ∧ (stepA a r).1.clock = (observeA a r).1.clock := by
  have h := observe_id a r
  unfold stepA
  generalize observeA a r = A at *
  split
  · exact ⟨h.1, h.2.1, h.2.2, rfl⟩
  split <;> exact ⟨h.1, h.2.1, h.2.2, rfl⟩
theorem do_id (a : Ag) (c : Cl) : (doA a c).id = a.id ∧ (doA a c).most = a.most := by
  unfold doA
  split
  · exact start_id _ _
  split
  · exact ⟨(measure_id _ _ _ _).1, (measure_id _ _ _ _).2.1⟩
  split
  · exact ⟨(take_id _ _ _).1, (take_id _ _ _).2.1⟩
  split
  · exact ⟨(step_id _ _).1, (step_id _ _).2.1⟩
  · exact ⟨rfl, rfl⟩
theorem play_id : ∀ (l : List Cl) (a : Ag), (playA a l).id = a.id ∧ (playA a l).most = a.most
  | [], _ => ⟨rfl, rfl⟩
  | c :: l, a => by
    have h := play_id l (doA a c)
    have h2 := do_id a c
    exact ⟨h.1.trans h2.1, h.2.trans h2.2⟩
def akF (id epoch next : Int) : Fr := ⟨6, id, epoch, 0, 0, 0, 0, next, 0, 0, [], ([], []), []⟩
theorem akF_only {id epoch next : Int} (h : rightF (akF id epoch next) = true) : (0 ≤ id ∧ id < 64) ∧ (0 ≤ epoch ∧ epoch ≤ 1099511627776) ∧ 0 ≤ next ∧ next ≤ 1099511627776 := by
  obtain ⟨q1, q2, q3, _⟩ := right_parts (rightF_k (k := 6) rfl (by decide) (by decide) h)
  have q4 := headOk_iff.1 q1
  exact ⟨q4.1, q4.2, (q2 next (by simp [valsK, idxK, getN, akF])).1, of_decide_eq_true q3⟩
theorem akF_ok {id epoch next : Int} (h1 : in64 id) (h2 : in64 epoch) (h3 : in64 next) : FrOk (akF id epoch next) :=
  ⟨(⟨by decide, by decide⟩ : in64 6), h1, h2, z64, z64, z64, z64, h3, z64, z64, by simp [akF], by simp [akF], by simp [akF]⟩
theorem akF_bad {id epoch next : Int} (h1 : in64 id) (h2 : in64 epoch) (h3 : in64 next) (h : rightF (akF id epoch next) = false) : Sat Tryz.prog 26 [.d (.agg (nilR (akF id epoch next)))] [] (.tup [.d nilV, iA 10]) [] :=
  encode_pre (encode_bad _ (akF_ok h1 h2 h3) h) (bare_le ⟨rfl, rfl, rfl⟩)
theorem dec_bare {f : Fr} (hb : bareP f) (hr : rightF f = true) (hL : (encodeT f).length ≤ 65536) : decodeF (encodeT f) = (f, 0) := decode_enc hr (fun x hx => by rw [hb.1] at hx; cases hx) hL
section
variable {P : Program} {L : List AObj} {n : Nat} {g : FuncId}
theorem CallOK.frzO {args : List AV} {rs : List Nat} {ws : List (Nat × AObj)} {s : Nat} {rows : List (List D)} (h : CallOK P g args L n ⟨rs, ws, [.sl s rows]⟩ (.own n)) : CallOK P g args L n ⟨rs, ws, [.dead]⟩ (.d (.sl s rows)) := by
  intro H F ρ w vals En hrs hnew hv
  refine (h H F ρ w vals En hrs hnew hv).mono ?_
  rintro en w' ⟨v, rfl, F', ρ', S, K, E', R⟩
  have hn' : appN n [AObj.sl s rows] (appW ws H) n = some (.sl s rows) := updF_same _ _ _
  cases R with | own R =>
  rename_i A m c
  obtain ⟨hh, e1, ⟨vs, how, hra, hs1⟩, e3⟩ := E'.rep n _ hn' rfl
  rw [R] at e1; injection e1 with e1; subst e1
  obtain ⟨A', c', he, g1, g2, hrd⟩ := how.form
  injection he with q1 q2 q3
  subst q1 q2 q3
  obtain ⟨S1, E1⟩ := E'.freeze hn' rfl R
  have eH : updF (appN n [AObj.sl s rows] (appW ws H)) n (some .dead) = appN n [.dead] (appW ws H) := by
    funext j
    show updF (updF (appW ws H) n _) n _ j = updF (appW ws H) n _ j
    by_cases e : j = n
    · subst e; rw [updF_same, updF_same]
    · rw [updF_ne _ _ e, updF_ne _ _ e, updF_ne _ _ e]
  rw [eH] at S1 E1
  have hd : RD w' (fun b => F' b ∨ blkOf (.slice A rows.length c) = some b) (.sl s rows) (.slice A rows.length c) := .sl rfl hs1 g1 g2 (hra.mono (fun _ _ => rfl) fun _ h => .inl h) fun hp' => by
    obtain ⟨b, off, rfl, hb, hc⟩ := hrd.2 hp'
    exact ⟨b, off, rfl, .inr rfl, hc⟩
  exact ⟨_, rfl, _, ρ', S.trans S1, K, E1, .d hd⟩
end
def frsA (a : Ag) : List Fr := if a.epoch = 0 then [helloF a] else a.probes.map (replyF a) ++ ((if a.kept = [] then [] else [batchF a (mostB a (min a.kept.length 64))]) ++ [beatF a])
theorem sent_frs (a : Ag) : sentA a = (frsA a).map encodeT := by
  unfold sentA frsA
  split
  · rfl
  · rw [List.map_append, List.map_append, List.map_map]
    congr 1
    congr 1
    unfold batT
    split <;> rfl
theorem batch_most {a : Ag} (hk : a.kept ≠ []) : 1 ≤ mostB a (min a.kept.length 64) ∧ mostB a (min a.kept.length 64) ≤ a.kept.length ∧ mostB a (min a.kept.length 64) ≤ 64 := by
  have h0 : 1 ≤ a.kept.length := by
    rcases Nat.eq_zero_or_pos a.kept.length with h | h
    · exact absurd (List.eq_nil_of_length_eq_zero h) hk
    · exact h
  have h1 := mostB_le a (min a.kept.length 64)
  exact ⟨mostB_pos a _ (by omega), by omega, by omega⟩
theorem frs_dec {a : Ag} (h : AgInv a) {f : Fr} (hf : f ∈ frsA a) : decodeF (encodeT f) = (f, 0) := by
  unfold frsA at hf
  split at hf
  · rename_i he
    rw [List.mem_singleton.1 hf]
    exact dec_bare ⟨rfl, rfl, rfl⟩ (hello_right h he) (small_len (k := 1) rfl (by decide) rfl)
  · rcases List.mem_append.1 hf with hf | hf
    · obtain ⟨p, hp, rfl⟩ := List.mem_map.1 hf
      exact dec_bare ⟨rfl, rfl, rfl⟩ (reply_right h hp) (small_len (k := 4) rfl (by decide) rfl)
    · rcases List.mem_append.1 hf with hf | hf
      · split at hf
        · cases hf
        · rename_i hk
          obtain ⟨b1, b2, b3⟩ := batch_most hk
          rw [List.mem_singleton.1 hf]
          exact decode_enc (batch_right h b1 b2 b3) (fun x hx => (h.ev x (List.mem_of_mem_take hx)).2.1) (mostB_small a _ b1)
      · rw [List.mem_singleton.1 hf]
        exact dec_bare ⟨rfl, rfl, rfl⟩ (beat_right h) (small_len (k := 7) rfl (by decide) rfl)
theorem frs_head {a : Ag} {f : Fr} (hf : f ∈ frsA a) : f.a = a.id ∧ f.e = a.epoch := by
  unfold frsA at hf
  split at hf
  · rw [List.mem_singleton.1 hf]; exact ⟨rfl, rfl⟩
  · rcases List.mem_append.1 hf with hf | hf
    · obtain ⟨p, hp, rfl⟩ := List.mem_map.1 hf
      exact ⟨rfl, rfl⟩
    · rcases List.mem_append.1 hf with hf | hf
      · split at hf
        · cases hf
        · rw [List.mem_singleton.1 hf]; exact ⟨rfl, rfl⟩
      · rw [List.mem_singleton.1 hf]; exact ⟨rfl, rfl⟩
theorem frs_fok {a : Ag} (h : AgInv a) {f : Fr} (hf : f ∈ frsA a) : FrOk f := by
  have := decodeF_ok (encodeT f)
  rw [frs_dec h hf] at this
  exact this
end Go.Proofs.YtfbfpnfgabamfaaGreat
