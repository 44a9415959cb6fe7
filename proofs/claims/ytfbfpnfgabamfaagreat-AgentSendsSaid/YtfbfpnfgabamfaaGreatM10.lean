/- Parts FrH of the proof, put together. -/
import Derived.Test.YtfbfpnfgabamfaaGreatM9
namespace Go.Proofs.YtfbfpnfgabamfaaGreat
set_option linter.unusedSimpArgs false
open Go.RowKit
set_option maxRecDepth 100000
set_option linter.unusedVariables false
theorem rightK_head {f : Fr} {k : Nat} (h : headOk f = false) : rightK f k = false := by unfold rightK; rw [h]; rfl
theorem rightK_val {f : Fr} {k : Nat} {x : Int} (hx : x ∈ valsK f k) (h : rngB x = false) : rightK f k = false := by
  have : (valsK f k).all rngB = false := List.all_eq_false.2 ⟨x, hx, by rw [h]; simp⟩
  unfold rightK
  rw [this, Bool.false_and, Bool.and_false]
theorem rightK_extra {f : Fr} {k : Nat} (h : extraB f k = false) : rightK f k = false := by
  unfold rightK
  rw [h, Bool.false_and, Bool.and_false, Bool.and_false]
theorem rightK_same {f : Fr} {k : Nat} (h1 : headOk f = true) (h2 : (valsK f k).all rngB = true) (h3 : extraB f k = true) : rightK f k = sameB f (bareF f k) := by
  unfold rightK
  rw [h1, h2, h3, Bool.true_and, Bool.true_and, Bool.true_and]
theorem headOk_iff {f : Fr} : headOk f = true ↔ (0 ≤ f.a ∧ f.a < 64) ∧ 0 ≤ f.e ∧ f.e ≤ 1099511627776 := by
  unfold headOk
  simp only [Bool.and_eq_true, decide_eq_true_eq]
theorem rngB_iff {z : Int} : rngB z = true ↔ 0 ≤ z ∧ z ≤ 4611686018427387903 := by
  unfold rngB
  simp only [Bool.and_eq_true, decide_eq_true_eq]
abbrev bI (f : Fr) (k i p : Nat) : Int := bnum f ((idxK k).take i) p
set_option maxHeartbeats 8000000 in
theorem right_1 (f : Fr) (hk : f.k = 1) (hf : FrOk f) : Sat Tryz.prog 55 [.d (frD f)] [] (bA (rightK f 1)) [] := by
  have f1 := fields_f f 1 hk (by decide) (by decide)
  have f2 := fields_n 1 (by decide) (by decide) 0 0 0 0 0 0 0 0 0
  have hb := bareF_ok hf (k := 1) (by decide)
  have hh := headOk_iff (f := f)
  have h0 := rightK_head (f := f) (k := 1)
  have hv := fun x => rightK_val (f := f) (k := 1) (x := x)
  have hs := rightK_same (f := f) (k := 1)
  have hx := rightK_extra (f := f) (k := 1)
  have sm := same_pre f (bareF f 1) hf hb (xs := nilR (bareF f 1)) (by repeat' (first | exact trivial | refine And.intro ?_ ?_ | exact .inl rfl | exact .inr ⟨rfl, _, rfl⟩))
  obtain ⟨kk, a, e, b, c, g, s, n, t, w, ev, sr, d⟩ := f
  have hk : kk = 1 := hk
  subst hk
  simp only at hh
  cases hho : headOk ⟨1, a, e, b, c, g, s, n, t, w, ev, sr, d⟩ with
  | false =>
    have hneg : ¬ (decide (a < 0) = false ∧ decide (a ≥ 64) = false ∧ decide (e < 0) = false ∧ decide (e > 1099511627776) = false) := by
      rintro ⟨q1, q2, q3, q4⟩
      have q1 := of_decide_eq_false q1
      have q2 := of_decide_eq_false q2
      have q3 := of_decide_eq_false q3
      have q4 := of_decide_eq_false q4
      rw [hh.2 ⟨⟨by omega, by omega⟩, by omega, by omega⟩] at hho
      cases hho
    rw [h0 hho]
    refine sat_of_vc (T := tiOf Tryz.prog) (E := E0) Tryz.func55 rfl rfl hE0 hm0 rfl ?_
    conv => whnf
    iterate 3
      repeat' (first | exact True.intro | ((first | refine Yb fun _ => ?_ | refine Yc fun _ => ?_ | refine Ya (by kernel_rfl) ?_ | refine Ya (by decide) ?_ | refine Yd (by decide) fun _ => ?_ | refine Ye (by decide) fun _ => ?_ | refine ⟨_, _, f1.at1 0 rfl rfl rfl, ?_⟩ | refine ⟨_, _, eqnP (by kernel_rfl), ?_⟩); conv => whnf) | (refine Ya (fun _ => ?_) (fun _ => ?_) <;> conv => whnf))
      all_goals try (refine Or.inl ?_; conv => whnf)
    all_goals try exact (hneg ⟨‹_›, ‹_›, ‹_›, ‹_›⟩).elim
    all_goals refine ⟨[], ?_⟩
    repeat (any_goals (first | exact True.intro | exact rfl | exact (by kernel_rfl) | refine Ya ?_ ?_))
    all_goals conv => whnf
  | true =>
  obtain ⟨⟨q1, q2⟩, q3, q4⟩ := hh.1 hho
  have d1 : decide (a < 0) = false := decide_eq_false (by omega)
  have d2 : decide (a ≥ 64) = false := decide_eq_false (by omega)
  have d3 : decide (e < 0) = false := decide_eq_false (by omega)
  have d4 : decide (e > 1099511627776) = false := decide_eq_false (by omega)
  refine sat_of_vc (T := tiOf Tryz.prog) (E := E0) Tryz.func55 rfl rfl hE0 hm0 rfl ?_
  conv => whnf
  iterate 3
    repeat' (first | exact True.intro | ((first | refine Yb fun _ => ?_ | refine Yc fun _ => ?_ | refine Ya (by kernel_rfl) ?_ | refine Ya (by decide) ?_ | refine Yd (by decide) fun _ => ?_ | refine Ye (by decide) fun _ => ?_ | refine ⟨_, _, f1.at1 0 rfl rfl rfl, ?_⟩ | refine ⟨_, _, eqnP (by kernel_rfl), ?_⟩); conv => whnf) | (refine Ya (fun _ => ?_) (fun _ => ?_) <;> conv => whnf))
    all_goals try (refine Or.inl ?_; conv => whnf)
  all_goals try exact (bnl ‹_› d1).elim
  all_goals try exact (bnl ‹_› d2).elim
  all_goals try exact (bnl ‹_› d3).elim
  all_goals try exact (bnl ‹_› d4).elim
  iterate 3
    repeat' (first | exact True.intro | ((first | refine Yb fun _ => ?_ | refine Yc fun _ => ?_ | refine Ya (by kernel_rfl) ?_ | refine Ya (by decide) ?_ | refine Yd (by decide) fun _ => ?_ | refine Ye (by decide) fun _ => ?_ | refine ⟨_, _, f2.at1 2 rfl rfl rfl, ?_⟩ | refine ⟨_, _, lenP (by kernel_rfl), ?_⟩); conv => whnf) | (refine Ya (fun _ => ?_) (fun _ => ?_) <;> conv => whnf))
    all_goals try (refine Or.inl ?_; conv => whnf)
  refine ⟨Nat, fun i => i ≤ 2 ∧ ((valsK ⟨1, a, e, b, c, g, s, n, t, w, ev, sr, d⟩ 1).take i).all rngB = true, fun i => ([(43, iA i), (42, iA 2), (41, .rel 1 (slP 2)), (5, .rel 3 (slP 2)), (4, .ptr 2 0), (1, .ptr 0 0)], [.cells (frA ⟨1, a, e, b, c, g, s, n, t, w, ev, sr, d⟩), .cells (ptrsK 1), .cells (frN 1 (bI ⟨1, a, e, b, c, g, s, n, t, w, ev, sr, d⟩ 1 i 1) (bI ⟨1, a, e, b, c, g, s, n, t, w, ev, sr, d⟩ 1 i 2) (bI ⟨1, a, e, b, c, g, s, n, t, w, ev, sr, d⟩ 1 i 3) (bI ⟨1, a, e, b, c, g, s, n, t, w, ev, sr, d⟩ 1 i 4) (bI ⟨1, a, e, b, c, g, s, n, t, w, ev, sr, d⟩ 1 i 5) (bI ⟨1, a, e, b, c, g, s, n, t, w, ev, sr, d⟩ 1 i 6) (bI ⟨1, a, e, b, c, g, s, n, t, w, ev, sr, d⟩ 1 i 7) (bI ⟨1, a, e, b, c, g, s, n, t, w, ev, sr, d⟩ 1 i 8) (bI ⟨1, a, e, b, c, g, s, n, t, w, ev, sr, d⟩ 1 i 9)), .cells ((idxK 1).map fun j => .ptr 2 j)]), fun i => 2 - i, ⟨0, ⟨Nat.zero_le _, rfl⟩, ?_⟩, ?_⟩
  · all_goals refine ⟨[], ?_⟩
    repeat (any_goals (first | exact True.intro | exact rfl | exact (by kernel_rfl) | refine Ya ?_ ?_))
    all_goals conv => whnf
  rintro i ⟨hi, hI⟩
  have hi : i ≤ 2 := hi
  obtain rfl | rfl | rfl : i = 0 ∨ i = 1 ∨ i = 2 := by omega
  · conv => whnf
    cases hr : rngB a with
    | false =>
      have hneg : ¬ (decide (a < 0) = false ∧ decide (a > 4611686018427387903) = false) := by
        rintro ⟨p1, p2⟩
        have p1 := of_decide_eq_false p1
        have p2 := of_decide_eq_false p2
        rw [rngB_iff.2 ⟨by omega, by omega⟩] at hr
        cases hr
      rw [hv a (by simp [valsK, idxK, getN]) hr]
      iterate 4
        repeat' (first | exact True.intro | ((first | refine Yb fun _ => ?_ | refine Yc fun _ => ?_ | refine Ya (by kernel_rfl) ?_ | refine Ya (by decide) ?_ | refine Yd (by decide) fun _ => ?_ | refine Ye (by decide) fun _ => ?_ | refine ⟨_, _, ixP (by kernel_rfl) (by kernel_rfl) (by decide), ?_⟩); conv => whnf) | (refine Ya (fun _ => ?_) (fun _ => ?_) <;> conv => whnf))
        all_goals try (refine Or.inl ?_; conv => whnf)
      all_goals try exact (hneg ⟨‹_›, ‹_›⟩).elim
      all_goals refine ⟨[], ?_⟩
      repeat (any_goals (first | exact True.intro | exact rfl | exact (by kernel_rfl) | refine Ya ?_ ?_))
      all_goals conv => whnf
    | true =>
      obtain ⟨p1, p2⟩ := rngB_iff.1 hr
      have d5 : decide (a < 0) = false := decide_eq_false (by omega)
      have d6 : decide (a > 4611686018427387903) = false := decide_eq_false (by omega)
      iterate 5
        repeat' (first | exact True.intro | ((first | refine Yb fun _ => ?_ | refine Yc fun _ => ?_ | refine Ya (by kernel_rfl) ?_ | refine Ya (by decide) ?_ | refine Yd (by decide) fun _ => ?_ | refine Ye (by decide) fun _ => ?_ | refine ⟨_, _, ixP (by kernel_rfl) (by kernel_rfl) (by decide), ?_⟩); conv => whnf) | (refine Ya (fun _ => ?_) (fun _ => ?_) <;> conv => whnf))
        all_goals try (refine Or.inl ?_; conv => whnf)
      all_goals try exact (bnl ‹_› d5).elim
      all_goals try exact (bnl ‹_› d6).elim
      refine ⟨1, ⟨by decide, by first | (rw [show 1 = 0 + 1 from rfl, List.take_add_one, List.all_append, hI]; simp [valsK, idxK, getN, hr])⟩, by decide, ?_⟩
      all_goals refine ⟨[], ?_⟩
      repeat (any_goals (first | exact True.intro | exact rfl | exact (by kernel_rfl) | refine Ya ?_ ?_))
      all_goals conv => whnf
  · conv => whnf
    cases hr : rngB b with
    | false =>
      have hneg : ¬ (decide (b < 0) = false ∧ decide (b > 4611686018427387903) = false) := by
        rintro ⟨p1, p2⟩
        have p1 := of_decide_eq_false p1
        have p2 := of_decide_eq_false p2
        rw [rngB_iff.2 ⟨by omega, by omega⟩] at hr
        cases hr
      rw [hv b (by simp [valsK, idxK, getN]) hr]
      iterate 4
        repeat' (first | exact True.intro | ((first | refine Yb fun _ => ?_ | refine Yc fun _ => ?_ | refine Ya (by kernel_rfl) ?_ | refine Ya (by decide) ?_ | refine Yd (by decide) fun _ => ?_ | refine Ye (by decide) fun _ => ?_ | refine ⟨_, _, ixP (by kernel_rfl) (by kernel_rfl) (by decide), ?_⟩); conv => whnf) | (refine Ya (fun _ => ?_) (fun _ => ?_) <;> conv => whnf))
        all_goals try (refine Or.inl ?_; conv => whnf)
      all_goals try exact (hneg ⟨‹_›, ‹_›⟩).elim
      all_goals refine ⟨[], ?_⟩
      repeat (any_goals (first | exact True.intro | exact rfl | exact (by kernel_rfl) | refine Ya ?_ ?_))
      all_goals conv => whnf
    | true =>
      obtain ⟨p1, p2⟩ := rngB_iff.1 hr
      have d5 : decide (b < 0) = false := decide_eq_false (by omega)
      have d6 : decide (b > 4611686018427387903) = false := decide_eq_false (by omega)
      iterate 5
        repeat' (first | exact True.intro | ((first | refine Yb fun _ => ?_ | refine Yc fun _ => ?_ | refine Ya (by kernel_rfl) ?_ | refine Ya (by decide) ?_ | refine Yd (by decide) fun _ => ?_ | refine Ye (by decide) fun _ => ?_ | refine ⟨_, _, ixP (by kernel_rfl) (by kernel_rfl) (by decide), ?_⟩); conv => whnf) | (refine Ya (fun _ => ?_) (fun _ => ?_) <;> conv => whnf))
        all_goals try (refine Or.inl ?_; conv => whnf)
      all_goals try exact (bnl ‹_› d5).elim
      all_goals try exact (bnl ‹_› d6).elim
      refine ⟨2, ⟨by decide, by first | (rw [show 2 = 1 + 1 from rfl, List.take_add_one, List.all_append, hI]; simp [valsK, idxK, getN, hr])⟩, by decide, ?_⟩
      all_goals refine ⟨[], ?_⟩
      repeat (any_goals (first | exact True.intro | exact rfl | exact (by kernel_rfl) | refine Ya ?_ ?_))
      all_goals conv => whnf
  have hall : (valsK ⟨1, a, e, b, c, g, s, n, t, w, ev, sr, d⟩ 1).all rngB = true := hI
  conv => whnf
  rw [hs hho hall rfl]
  iterate 9
    repeat' (first | exact True.intro | ((first | refine Yb fun _ => ?_ | refine Yc fun _ => ?_ | refine Ya (by kernel_rfl) ?_ | refine Ya (by decide) ?_ | refine Yd (by decide) fun _ => ?_ | refine Ye (by decide) fun _ => ?_ | refine ⟨_, _, sm.pu rfl rfl, ?_⟩); conv => whnf) | (refine Ya (fun _ => ?_) (fun _ => ?_) <;> conv => whnf))
    all_goals try (refine Or.inl ?_; conv => whnf)
  all_goals try (exfalso; simp only [outL] at *; first | omega | contradiction | (simp_all; done) | (simp_all; omega))
  all_goals refine ⟨[], ?_⟩
  repeat (any_goals (first | exact True.intro | exact rfl | exact (by kernel_rfl) | refine Ya ?_ ?_))
  all_goals conv => whnf
set_option maxHeartbeats 8000000 in
theorem right_2 (f : Fr) (hk : f.k = 2) (hf : FrOk f) : Sat Tryz.prog 55 [.d (frD f)] [] (bA (rightK f 2)) [] := by
  have f1 := fields_f f 2 hk (by decide) (by decide)
  have f2 := fields_n 2 (by decide) (by decide) 0 0 0 0 0 0 0 0 0
  have hb := bareF_ok hf (k := 2) (by decide)
  have hh := headOk_iff (f := f)
  have h0 := rightK_head (f := f) (k := 2)
  have hv := fun x => rightK_val (f := f) (k := 2) (x := x)
  have hs := rightK_same (f := f) (k := 2)
  have hx := rightK_extra (f := f) (k := 2)
  have sm := same_pre f (bareF f 2) hf hb (xs := nilR (bareF f 2)) (by repeat' (first | exact trivial | refine And.intro ?_ ?_ | exact .inl rfl | exact .inr ⟨rfl, _, rfl⟩))
  obtain ⟨kk, a, e, b, c, g, s, n, t, w, ev, sr, d⟩ := f
  have hk : kk = 2 := hk
  subst hk
  simp only at hh
  cases hho : headOk ⟨2, a, e, b, c, g, s, n, t, w, ev, sr, d⟩ with
  | false =>
    have hneg : ¬ (decide (a < 0) = false ∧ decide (a ≥ 64) = false ∧ decide (e < 0) = false ∧ decide (e > 1099511627776) = false) := by
      rintro ⟨q1, q2, q3, q4⟩
      have q1 := of_decide_eq_false q1
      have q2 := of_decide_eq_false q2
      have q3 := of_decide_eq_false q3
      have q4 := of_decide_eq_false q4
      rw [hh.2 ⟨⟨by omega, by omega⟩, by omega, by omega⟩] at hho
      cases hho
    rw [h0 hho]
    refine sat_of_vc (T := tiOf Tryz.prog) (E := E0) Tryz.func55 rfl rfl hE0 hm0 rfl ?_
    conv => whnf
    iterate 3
      repeat' (first | exact True.intro | ((first | refine Yb fun _ => ?_ | refine Yc fun _ => ?_ | refine Ya (by kernel_rfl) ?_ | refine Ya (by decide) ?_ | refine Yd (by decide) fun _ => ?_ | refine Ye (by decide) fun _ => ?_ | refine ⟨_, _, f1.at1 0 rfl rfl rfl, ?_⟩ | refine ⟨_, _, eqnP (by kernel_rfl), ?_⟩); conv => whnf) | (refine Ya (fun _ => ?_) (fun _ => ?_) <;> conv => whnf))
      all_goals try (refine Or.inl ?_; conv => whnf)
    all_goals try exact (hneg ⟨‹_›, ‹_›, ‹_›, ‹_›⟩).elim
    all_goals refine ⟨[], ?_⟩
    repeat (any_goals (first | exact True.intro | exact rfl | exact (by kernel_rfl) | refine Ya ?_ ?_))
    all_goals conv => whnf
  | true =>
  obtain ⟨⟨q1, q2⟩, q3, q4⟩ := hh.1 hho
  have d1 : decide (a < 0) = false := decide_eq_false (by omega)
  have d2 : decide (a ≥ 64) = false := decide_eq_false (by omega)
  have d3 : decide (e < 0) = false := decide_eq_false (by omega)
  have d4 : decide (e > 1099511627776) = false := decide_eq_false (by omega)
  refine sat_of_vc (T := tiOf Tryz.prog) (E := E0) Tryz.func55 rfl rfl hE0 hm0 rfl ?_
  conv => whnf
  iterate 3
    repeat' (first | exact True.intro | ((first | refine Yb fun _ => ?_ | refine Yc fun _ => ?_ | refine Ya (by kernel_rfl) ?_ | refine Ya (by decide) ?_ | refine Yd (by decide) fun _ => ?_ | refine Ye (by decide) fun _ => ?_ | refine ⟨_, _, f1.at1 0 rfl rfl rfl, ?_⟩ | refine ⟨_, _, eqnP (by kernel_rfl), ?_⟩); conv => whnf) | (refine Ya (fun _ => ?_) (fun _ => ?_) <;> conv => whnf))
    all_goals try (refine Or.inl ?_; conv => whnf)
  all_goals try exact (bnl ‹_› d1).elim
  all_goals try exact (bnl ‹_› d2).elim
  all_goals try exact (bnl ‹_› d3).elim
  all_goals try exact (bnl ‹_› d4).elim
  iterate 3
    repeat' (first | exact True.intro | ((first | refine Yb fun _ => ?_ | refine Yc fun _ => ?_ | refine Ya (by kernel_rfl) ?_ | refine Ya (by decide) ?_ | refine Yd (by decide) fun _ => ?_ | refine Ye (by decide) fun _ => ?_ | refine ⟨_, _, f2.at1 2 rfl rfl rfl, ?_⟩ | refine ⟨_, _, lenP (by kernel_rfl), ?_⟩); conv => whnf) | (refine Ya (fun _ => ?_) (fun _ => ?_) <;> conv => whnf))
    all_goals try (refine Or.inl ?_; conv => whnf)
  refine ⟨Nat, fun i => i ≤ 3 ∧ ((valsK ⟨2, a, e, b, c, g, s, n, t, w, ev, sr, d⟩ 2).take i).all rngB = true, fun i => ([(43, iA i), (42, iA 3), (41, .rel 1 (slP 3)), (5, .rel 3 (slP 3)), (4, .ptr 2 0), (1, .ptr 0 0)], [.cells (frA ⟨2, a, e, b, c, g, s, n, t, w, ev, sr, d⟩), .cells (ptrsK 2), .cells (frN 2 (bI ⟨2, a, e, b, c, g, s, n, t, w, ev, sr, d⟩ 2 i 1) (bI ⟨2, a, e, b, c, g, s, n, t, w, ev, sr, d⟩ 2 i 2) (bI ⟨2, a, e, b, c, g, s, n, t, w, ev, sr, d⟩ 2 i 3) (bI ⟨2, a, e, b, c, g, s, n, t, w, ev, sr, d⟩ 2 i 4) (bI ⟨2, a, e, b, c, g, s, n, t, w, ev, sr, d⟩ 2 i 5) (bI ⟨2, a, e, b, c, g, s, n, t, w, ev, sr, d⟩ 2 i 6) (bI ⟨2, a, e, b, c, g, s, n, t, w, ev, sr, d⟩ 2 i 7) (bI ⟨2, a, e, b, c, g, s, n, t, w, ev, sr, d⟩ 2 i 8) (bI ⟨2, a, e, b, c, g, s, n, t, w, ev, sr, d⟩ 2 i 9)), .cells ((idxK 2).map fun j => .ptr 2 j)]), fun i => 3 - i, ⟨0, ⟨Nat.zero_le _, rfl⟩, ?_⟩, ?_⟩
  · all_goals refine ⟨[], ?_⟩
    repeat (any_goals (first | exact True.intro | exact rfl | exact (by kernel_rfl) | refine Ya ?_ ?_))
    all_goals conv => whnf
  rintro i ⟨hi, hI⟩
  have hi : i ≤ 3 := hi
  obtain rfl | rfl | rfl | rfl : i = 0 ∨ i = 1 ∨ i = 2 ∨ i = 3 := by omega
  · conv => whnf
    cases hr : rngB a with
    | false =>
      have hneg : ¬ (decide (a < 0) = false ∧ decide (a > 4611686018427387903) = false) := by
        rintro ⟨p1, p2⟩
        have p1 := of_decide_eq_false p1
        have p2 := of_decide_eq_false p2
        rw [rngB_iff.2 ⟨by omega, by omega⟩] at hr
        cases hr
      rw [hv a (by simp [valsK, idxK, getN]) hr]
      iterate 4
        repeat' (first | exact True.intro | ((first | refine Yb fun _ => ?_ | refine Yc fun _ => ?_ | refine Ya (by kernel_rfl) ?_ | refine Ya (by decide) ?_ | refine Yd (by decide) fun _ => ?_ | refine Ye (by decide) fun _ => ?_ | refine ⟨_, _, ixP (by kernel_rfl) (by kernel_rfl) (by decide), ?_⟩); conv => whnf) | (refine Ya (fun _ => ?_) (fun _ => ?_) <;> conv => whnf))
        all_goals try (refine Or.inl ?_; conv => whnf)
      all_goals try exact (hneg ⟨‹_›, ‹_›⟩).elim
      all_goals refine ⟨[], ?_⟩
      repeat (any_goals (first | exact True.intro | exact rfl | exact (by kernel_rfl) | refine Ya ?_ ?_))
      all_goals conv => whnf
    | true =>
      obtain ⟨p1, p2⟩ := rngB_iff.1 hr
      have d5 : decide (a < 0) = false := decide_eq_false (by omega)
      have d6 : decide (a > 4611686018427387903) = false := decide_eq_false (by omega)
      iterate 5
        repeat' (first | exact True.intro | ((first | refine Yb fun _ => ?_ | refine Yc fun _ => ?_ | refine Ya (by kernel_rfl) ?_ | refine Ya (by decide) ?_ | refine Yd (by decide) fun _ => ?_ | refine Ye (by decide) fun _ => ?_ | refine ⟨_, _, ixP (by kernel_rfl) (by kernel_rfl) (by decide), ?_⟩); conv => whnf) | (refine Ya (fun _ => ?_) (fun _ => ?_) <;> conv => whnf))
        all_goals try (refine Or.inl ?_; conv => whnf)
      all_goals try exact (bnl ‹_› d5).elim
      all_goals try exact (bnl ‹_› d6).elim
      refine ⟨1, ⟨by decide, by first | (rw [show 1 = 0 + 1 from rfl, List.take_add_one, List.all_append, hI]; simp [valsK, idxK, getN, hr])⟩, by decide, ?_⟩
      all_goals refine ⟨[], ?_⟩
      repeat (any_goals (first | exact True.intro | exact rfl | exact (by kernel_rfl) | refine Ya ?_ ?_))
      all_goals conv => whnf
  · conv => whnf
    cases hr : rngB b with
    | false =>
      have hneg : ¬ (decide (b < 0) = false ∧ decide (b > 4611686018427387903) = false) := by
        rintro ⟨p1, p2⟩
        have p1 := of_decide_eq_false p1
        have p2 := of_decide_eq_false p2
        rw [rngB_iff.2 ⟨by omega, by omega⟩] at hr
        cases hr
      rw [hv b (by simp [valsK, idxK, getN]) hr]
      iterate 4
        repeat' (first | exact True.intro | ((first | refine Yb fun _ => ?_ | refine Yc fun _ => ?_ | refine Ya (by kernel_rfl) ?_ | refine Ya (by decide) ?_ | refine Yd (by decide) fun _ => ?_ | refine Ye (by decide) fun _ => ?_ | refine ⟨_, _, ixP (by kernel_rfl) (by kernel_rfl) (by decide), ?_⟩); conv => whnf) | (refine Ya (fun _ => ?_) (fun _ => ?_) <;> conv => whnf))
        all_goals try (refine Or.inl ?_; conv => whnf)
      all_goals try exact (hneg ⟨‹_›, ‹_›⟩).elim
      all_goals refine ⟨[], ?_⟩
      repeat (any_goals (first | exact True.intro | exact rfl | exact (by kernel_rfl) | refine Ya ?_ ?_))
      all_goals conv => whnf
    | true =>
      obtain ⟨p1, p2⟩ := rngB_iff.1 hr
      have d5 : decide (b < 0) = false := decide_eq_false (by omega)
      have d6 : decide (b > 4611686018427387903) = false := decide_eq_false (by omega)
      iterate 5
        repeat' (first | exact True.intro | ((first | refine Yb fun _ => ?_ | refine Yc fun _ => ?_ | refine Ya (by kernel_rfl) ?_ | refine Ya (by decide) ?_ | refine Yd (by decide) fun _ => ?_ | refine Ye (by decide) fun _ => ?_ | refine ⟨_, _, ixP (by kernel_rfl) (by kernel_rfl) (by decide), ?_⟩); conv => whnf) | (refine Ya (fun _ => ?_) (fun _ => ?_) <;> conv => whnf))
        all_goals try (refine Or.inl ?_; conv => whnf)
      all_goals try exact (bnl ‹_› d5).elim
      all_goals try exact (bnl ‹_› d6).elim
      refine ⟨2, ⟨by decide, by first | (rw [show 2 = 1 + 1 from rfl, List.take_add_one, List.all_append, hI]; simp [valsK, idxK, getN, hr])⟩, by decide, ?_⟩
      all_goals refine ⟨[], ?_⟩
      repeat (any_goals (first | exact True.intro | exact rfl | exact (by kernel_rfl) | refine Ya ?_ ?_))
      all_goals conv => whnf
  · conv => whnf
    cases hr : rngB e with
    | false =>
      have hneg : ¬ (decide (e < 0) = false ∧ decide (e > 4611686018427387903) = false) := by
        rintro ⟨p1, p2⟩
        have p1 := of_decide_eq_false p1
        have p2 := of_decide_eq_false p2
        rw [rngB_iff.2 ⟨by omega, by omega⟩] at hr
        cases hr
      rw [hv e (by simp [valsK, idxK, getN]) hr]
      iterate 4
        repeat' (first | exact True.intro | ((first | refine Yb fun _ => ?_ | refine Yc fun _ => ?_ | refine Ya (by kernel_rfl) ?_ | refine Ya (by decide) ?_ | refine Yd (by decide) fun _ => ?_ | refine Ye (by decide) fun _ => ?_ | refine ⟨_, _, ixP (by kernel_rfl) (by kernel_rfl) (by decide), ?_⟩); conv => whnf) | (refine Ya (fun _ => ?_) (fun _ => ?_) <;> conv => whnf))
        all_goals try (refine Or.inl ?_; conv => whnf)
      all_goals try exact (hneg ⟨‹_›, ‹_›⟩).elim
      all_goals refine ⟨[], ?_⟩
      repeat (any_goals (first | exact True.intro | exact rfl | exact (by kernel_rfl) | refine Ya ?_ ?_))
      all_goals conv => whnf
    | true =>
      obtain ⟨p1, p2⟩ := rngB_iff.1 hr
      have d5 : decide (e < 0) = false := decide_eq_false (by omega)
      have d6 : decide (e > 4611686018427387903) = false := decide_eq_false (by omega)
      iterate 5
        repeat' (first | exact True.intro | ((first | refine Yb fun _ => ?_ | refine Yc fun _ => ?_ | refine Ya (by kernel_rfl) ?_ | refine Ya (by decide) ?_ | refine Yd (by decide) fun _ => ?_ | refine Ye (by decide) fun _ => ?_ | refine ⟨_, _, ixP (by kernel_rfl) (by kernel_rfl) (by decide), ?_⟩); conv => whnf) | (refine Ya (fun _ => ?_) (fun _ => ?_) <;> conv => whnf))
        all_goals try (refine Or.inl ?_; conv => whnf)
      all_goals try exact (bnl ‹_› d5).elim
      all_goals try exact (bnl ‹_› d6).elim
      refine ⟨3, ⟨by decide, by first | (rw [show 3 = 2 + 1 from rfl, List.take_add_one, List.all_append, hI]; simp [valsK, idxK, getN, hr])⟩, by decide, ?_⟩
      all_goals refine ⟨[], ?_⟩
      repeat (any_goals (first | exact True.intro | exact rfl | exact (by kernel_rfl) | refine Ya ?_ ?_))
      all_goals conv => whnf
  have hall : (valsK ⟨2, a, e, b, c, g, s, n, t, w, ev, sr, d⟩ 2).all rngB = true := hI
  conv => whnf
  rw [hs hho hall rfl]
  iterate 9
    repeat' (first | exact True.intro | ((first | refine Yb fun _ => ?_ | refine Yc fun _ => ?_ | refine Ya (by kernel_rfl) ?_ | refine Ya (by decide) ?_ | refine Yd (by decide) fun _ => ?_ | refine Ye (by decide) fun _ => ?_ | refine ⟨_, _, sm.pu rfl rfl, ?_⟩); conv => whnf) | (refine Ya (fun _ => ?_) (fun _ => ?_) <;> conv => whnf))
    all_goals try (refine Or.inl ?_; conv => whnf)
  all_goals try (exfalso; simp only [outL] at *; first | omega | contradiction | (simp_all; done) | (simp_all; omega))
  all_goals refine ⟨[], ?_⟩
  repeat (any_goals (first | exact True.intro | exact rfl | exact (by kernel_rfl) | refine Ya ?_ ?_))
  all_goals conv => whnf
set_option maxHeartbeats 8000000 in
theorem right_3 (f : Fr) (hk : f.k = 3) (hf : FrOk f) : Sat Tryz.prog 55 [.d (frD f)] [] (bA (rightK f 3)) [] := by
  have f1 := fields_f f 3 hk (by decide) (by decide)
  have f2 := fields_n 3 (by decide) (by decide) 0 0 0 0 0 0 0 0 0
  have hb := bareF_ok hf (k := 3) (by decide)
  have hh := headOk_iff (f := f)
  have h0 := rightK_head (f := f) (k := 3)
  have hv := fun x => rightK_val (f := f) (k := 3) (x := x)
  have hs := rightK_same (f := f) (k := 3)
  have hx := rightK_extra (f := f) (k := 3)
  have sm := same_pre f (bareF f 3) hf hb (xs := nilR (bareF f 3)) (by repeat' (first | exact trivial | refine And.intro ?_ ?_ | exact .inl rfl | exact .inr ⟨rfl, _, rfl⟩))
  obtain ⟨kk, a, e, b, c, g, s, n, t, w, ev, sr, d⟩ := f
  have hk : kk = 3 := hk
  subst hk
  simp only at hh
  cases hho : headOk ⟨3, a, e, b, c, g, s, n, t, w, ev, sr, d⟩ with
  | false =>
    have hneg : ¬ (decide (a < 0) = false ∧ decide (a ≥ 64) = false ∧ decide (e < 0) = false ∧ decide (e > 1099511627776) = false) := by
      rintro ⟨q1, q2, q3, q4⟩
      have q1 := of_decide_eq_false q1
      have q2 := of_decide_eq_false q2
      have q3 := of_decide_eq_false q3
      have q4 := of_decide_eq_false q4
      rw [hh.2 ⟨⟨by omega, by omega⟩, by omega, by omega⟩] at hho
      cases hho
    rw [h0 hho]
    refine sat_of_vc (T := tiOf Tryz.prog) (E := E0) Tryz.func55 rfl rfl hE0 hm0 rfl ?_
    conv => whnf
    iterate 3
      repeat' (first | exact True.intro | ((first | refine Yb fun _ => ?_ | refine Yc fun _ => ?_ | refine Ya (by kernel_rfl) ?_ | refine Ya (by decide) ?_ | refine Yd (by decide) fun _ => ?_ | refine Ye (by decide) fun _ => ?_ | refine ⟨_, _, f1.at1 0 rfl rfl rfl, ?_⟩ | refine ⟨_, _, eqnP (by kernel_rfl), ?_⟩); conv => whnf) | (refine Ya (fun _ => ?_) (fun _ => ?_) <;> conv => whnf))
      all_goals try (refine Or.inl ?_; conv => whnf)
    all_goals try exact (hneg ⟨‹_›, ‹_›, ‹_›, ‹_›⟩).elim
    all_goals refine ⟨[], ?_⟩
    repeat (any_goals (first | exact True.intro | exact rfl | exact (by kernel_rfl) | refine Ya ?_ ?_))
    all_goals conv => whnf
  | true =>
  obtain ⟨⟨q1, q2⟩, q3, q4⟩ := hh.1 hho
  have d1 : decide (a < 0) = false := decide_eq_false (by omega)
  have d2 : decide (a ≥ 64) = false := decide_eq_false (by omega)
  have d3 : decide (e < 0) = false := decide_eq_false (by omega)
  have d4 : decide (e > 1099511627776) = false := decide_eq_false (by omega)
  refine sat_of_vc (T := tiOf Tryz.prog) (E := E0) Tryz.func55 rfl rfl hE0 hm0 rfl ?_
  conv => whnf
  iterate 3
    repeat' (first | exact True.intro | ((first | refine Yb fun _ => ?_ | refine Yc fun _ => ?_ | refine Ya (by kernel_rfl) ?_ | refine Ya (by decide) ?_ | refine Yd (by decide) fun _ => ?_ | refine Ye (by decide) fun _ => ?_ | refine ⟨_, _, f1.at1 0 rfl rfl rfl, ?_⟩ | refine ⟨_, _, eqnP (by kernel_rfl), ?_⟩); conv => whnf) | (refine Ya (fun _ => ?_) (fun _ => ?_) <;> conv => whnf))
    all_goals try (refine Or.inl ?_; conv => whnf)
  all_goals try exact (bnl ‹_› d1).elim
  all_goals try exact (bnl ‹_› d2).elim
  all_goals try exact (bnl ‹_› d3).elim
  all_goals try exact (bnl ‹_› d4).elim
  iterate 3
    repeat' (first | exact True.intro | ((first | refine Yb fun _ => ?_ | refine Yc fun _ => ?_ | refine Ya (by kernel_rfl) ?_ | refine Ya (by decide) ?_ | refine Yd (by decide) fun _ => ?_ | refine Ye (by decide) fun _ => ?_ | refine ⟨_, _, f2.at1 2 rfl rfl rfl, ?_⟩ | refine ⟨_, _, lenP (by kernel_rfl), ?_⟩); conv => whnf) | (refine Ya (fun _ => ?_) (fun _ => ?_) <;> conv => whnf))
    all_goals try (refine Or.inl ?_; conv => whnf)
  refine ⟨Nat, fun i => i ≤ 3 ∧ ((valsK ⟨3, a, e, b, c, g, s, n, t, w, ev, sr, d⟩ 3).take i).all rngB = true, fun i => ([(43, iA i), (42, iA 3), (41, .rel 1 (slP 3)), (5, .rel 3 (slP 3)), (4, .ptr 2 0), (1, .ptr 0 0)], [.cells (frA ⟨3, a, e, b, c, g, s, n, t, w, ev, sr, d⟩), .cells (ptrsK 3), .cells (frN 3 (bI ⟨3, a, e, b, c, g, s, n, t, w, ev, sr, d⟩ 3 i 1) (bI ⟨3, a, e, b, c, g, s, n, t, w, ev, sr, d⟩ 3 i 2) (bI ⟨3, a, e, b, c, g, s, n, t, w, ev, sr, d⟩ 3 i 3) (bI ⟨3, a, e, b, c, g, s, n, t, w, ev, sr, d⟩ 3 i 4) (bI ⟨3, a, e, b, c, g, s, n, t, w, ev, sr, d⟩ 3 i 5) (bI ⟨3, a, e, b, c, g, s, n, t, w, ev, sr, d⟩ 3 i 6) (bI ⟨3, a, e, b, c, g, s, n, t, w, ev, sr, d⟩ 3 i 7) (bI ⟨3, a, e, b, c, g, s, n, t, w, ev, sr, d⟩ 3 i 8) (bI ⟨3, a, e, b, c, g, s, n, t, w, ev, sr, d⟩ 3 i 9)), .cells ((idxK 3).map fun j => .ptr 2 j)]), fun i => 3 - i, ⟨0, ⟨Nat.zero_le _, rfl⟩, ?_⟩, ?_⟩
  · all_goals refine ⟨[], ?_⟩
    repeat (any_goals (first | exact True.intro | exact rfl | exact (by kernel_rfl) | refine Ya ?_ ?_))
    all_goals conv => whnf
  rintro i ⟨hi, hI⟩
  have hi : i ≤ 3 := hi
  obtain rfl | rfl | rfl | rfl : i = 0 ∨ i = 1 ∨ i = 2 ∨ i = 3 := by omega
  · conv => whnf
    cases hr : rngB a with
    | false =>
      have hneg : ¬ (decide (a < 0) = false ∧ decide (a > 4611686018427387903) = false) := by
        rintro ⟨p1, p2⟩
        have p1 := of_decide_eq_false p1
        have p2 := of_decide_eq_false p2
        rw [rngB_iff.2 ⟨by omega, by omega⟩] at hr
        cases hr
      rw [hv a (by simp [valsK, idxK, getN]) hr]
      iterate 4
        repeat' (first | exact True.intro | ((first | refine Yb fun _ => ?_ | refine Yc fun _ => ?_ | refine Ya (by kernel_rfl) ?_ | refine Ya (by decide) ?_ | refine Yd (by decide) fun _ => ?_ | refine Ye (by decide) fun _ => ?_ | refine ⟨_, _, ixP (by kernel_rfl) (by kernel_rfl) (by decide), ?_⟩); conv => whnf) | (refine Ya (fun _ => ?_) (fun _ => ?_) <;> conv => whnf))
        all_goals try (refine Or.inl ?_; conv => whnf)
      all_goals try exact (hneg ⟨‹_›, ‹_›⟩).elim
      all_goals refine ⟨[], ?_⟩
      repeat (any_goals (first | exact True.intro | exact rfl | exact (by kernel_rfl) | refine Ya ?_ ?_))
      all_goals conv => whnf
    | true =>
      obtain ⟨p1, p2⟩ := rngB_iff.1 hr
      have d5 : decide (a < 0) = false := decide_eq_false (by omega)
      have d6 : decide (a > 4611686018427387903) = false := decide_eq_false (by omega)
      iterate 5
        repeat' (first | exact True.intro | ((first | refine Yb fun _ => ?_ | refine Yc fun _ => ?_ | refine Ya (by kernel_rfl) ?_ | refine Ya (by decide) ?_ | refine Yd (by decide) fun _ => ?_ | refine Ye (by decide) fun _ => ?_ | refine ⟨_, _, ixP (by kernel_rfl) (by kernel_rfl) (by decide), ?_⟩); conv => whnf) | (refine Ya (fun _ => ?_) (fun _ => ?_) <;> conv => whnf))
        all_goals try (refine Or.inl ?_; conv => whnf)
      all_goals try exact (bnl ‹_› d5).elim
      all_goals try exact (bnl ‹_› d6).elim
      refine ⟨1, ⟨by decide, by first | (rw [show 1 = 0 + 1 from rfl, List.take_add_one, List.all_append, hI]; simp [valsK, idxK, getN, hr])⟩, by decide, ?_⟩
      all_goals refine ⟨[], ?_⟩
      repeat (any_goals (first | exact True.intro | exact rfl | exact (by kernel_rfl) | refine Ya ?_ ?_))
      all_goals conv => whnf
  · conv => whnf
    cases hr : rngB b with
    | false =>
      have hneg : ¬ (decide (b < 0) = false ∧ decide (b > 4611686018427387903) = false) := by
        rintro ⟨p1, p2⟩
        have p1 := of_decide_eq_false p1
        have p2 := of_decide_eq_false p2
        rw [rngB_iff.2 ⟨by omega, by omega⟩] at hr
        cases hr
      rw [hv b (by simp [valsK, idxK, getN]) hr]
      iterate 4
        repeat' (first | exact True.intro | ((first | refine Yb fun _ => ?_ | refine Yc fun _ => ?_ | refine Ya (by kernel_rfl) ?_ | refine Ya (by decide) ?_ | refine Yd (by decide) fun _ => ?_ | refine Ye (by decide) fun _ => ?_ | refine ⟨_, _, ixP (by kernel_rfl) (by kernel_rfl) (by decide), ?_⟩); conv => whnf) | (refine Ya (fun _ => ?_) (fun _ => ?_) <;> conv => whnf))
        all_goals try (refine Or.inl ?_; conv => whnf)
      all_goals try exact (hneg ⟨‹_›, ‹_›⟩).elim
      all_goals refine ⟨[], ?_⟩
      repeat (any_goals (first | exact True.intro | exact rfl | exact (by kernel_rfl) | refine Ya ?_ ?_))
      all_goals conv => whnf
    | true =>
      obtain ⟨p1, p2⟩ := rngB_iff.1 hr
      have d5 : decide (b < 0) = false := decide_eq_false (by omega)
      have d6 : decide (b > 4611686018427387903) = false := decide_eq_false (by omega)
      iterate 5
        repeat' (first | exact True.intro | ((first | refine Yb fun _ => ?_ | refine Yc fun _ => ?_ | refine Ya (by kernel_rfl) ?_ | refine Ya (by decide) ?_ | refine Yd (by decide) fun _ => ?_ | refine Ye (by decide) fun _ => ?_ | refine ⟨_, _, ixP (by kernel_rfl) (by kernel_rfl) (by decide), ?_⟩); conv => whnf) | (refine Ya (fun _ => ?_) (fun _ => ?_) <;> conv => whnf))
        all_goals try (refine Or.inl ?_; conv => whnf)
      all_goals try exact (bnl ‹_› d5).elim
      all_goals try exact (bnl ‹_› d6).elim
      refine ⟨2, ⟨by decide, by first | (rw [show 2 = 1 + 1 from rfl, List.take_add_one, List.all_append, hI]; simp [valsK, idxK, getN, hr])⟩, by decide, ?_⟩
      all_goals refine ⟨[], ?_⟩
      repeat (any_goals (first | exact True.intro | exact rfl | exact (by kernel_rfl) | refine Ya ?_ ?_))
      all_goals conv => whnf
  · conv => whnf
    cases hr : rngB c with
    | false =>
      have hneg : ¬ (decide (c < 0) = false ∧ decide (c > 4611686018427387903) = false) := by
        rintro ⟨p1, p2⟩
        have p1 := of_decide_eq_false p1
        have p2 := of_decide_eq_false p2
        rw [rngB_iff.2 ⟨by omega, by omega⟩] at hr
        cases hr
      rw [hv c (by simp [valsK, idxK, getN]) hr]
      iterate 4
        repeat' (first | exact True.intro | ((first | refine Yb fun _ => ?_ | refine Yc fun _ => ?_ | refine Ya (by kernel_rfl) ?_ | refine Ya (by decide) ?_ | refine Yd (by decide) fun _ => ?_ | refine Ye (by decide) fun _ => ?_ | refine ⟨_, _, ixP (by kernel_rfl) (by kernel_rfl) (by decide), ?_⟩); conv => whnf) | (refine Ya (fun _ => ?_) (fun _ => ?_) <;> conv => whnf))
        all_goals try (refine Or.inl ?_; conv => whnf)
      all_goals try exact (hneg ⟨‹_›, ‹_›⟩).elim
      all_goals refine ⟨[], ?_⟩
      repeat (any_goals (first | exact True.intro | exact rfl | exact (by kernel_rfl) | refine Ya ?_ ?_))
      all_goals conv => whnf
    | true =>
      obtain ⟨p1, p2⟩ := rngB_iff.1 hr
      have d5 : decide (c < 0) = false := decide_eq_false (by omega)
      have d6 : decide (c > 4611686018427387903) = false := decide_eq_false (by omega)
      iterate 5
        repeat' (first | exact True.intro | ((first | refine Yb fun _ => ?_ | refine Yc fun _ => ?_ | refine Ya (by kernel_rfl) ?_ | refine Ya (by decide) ?_ | refine Yd (by decide) fun _ => ?_ | refine Ye (by decide) fun _ => ?_ | refine ⟨_, _, ixP (by kernel_rfl) (by kernel_rfl) (by decide), ?_⟩); conv => whnf) | (refine Ya (fun _ => ?_) (fun _ => ?_) <;> conv => whnf))
        all_goals try (refine Or.inl ?_; conv => whnf)
      all_goals try exact (bnl ‹_› d5).elim
      all_goals try exact (bnl ‹_› d6).elim
      refine ⟨3, ⟨by decide, by first | (rw [show 3 = 2 + 1 from rfl, List.take_add_one, List.all_append, hI]; simp [valsK, idxK, getN, hr])⟩, by decide, ?_⟩
      all_goals refine ⟨[], ?_⟩
      repeat (any_goals (first | exact True.intro | exact rfl | exact (by kernel_rfl) | refine Ya ?_ ?_))
      all_goals conv => whnf
  have hall : (valsK ⟨3, a, e, b, c, g, s, n, t, w, ev, sr, d⟩ 3).all rngB = true := hI
  conv => whnf
  rw [hs hho hall rfl]
  iterate 9
    repeat' (first | exact True.intro | ((first | refine Yb fun _ => ?_ | refine Yc fun _ => ?_ | refine Ya (by kernel_rfl) ?_ | refine Ya (by decide) ?_ | refine Yd (by decide) fun _ => ?_ | refine Ye (by decide) fun _ => ?_ | refine ⟨_, _, sm.pu rfl rfl, ?_⟩); conv => whnf) | (refine Ya (fun _ => ?_) (fun _ => ?_) <;> conv => whnf))
    all_goals try (refine Or.inl ?_; conv => whnf)
  all_goals try (exfalso; simp only [outL] at *; first | omega | contradiction | (simp_all; done) | (simp_all; omega))
  all_goals refine ⟨[], ?_⟩
  repeat (any_goals (first | exact True.intro | exact rfl | exact (by kernel_rfl) | refine Ya ?_ ?_))
  all_goals conv => whnf
set_option maxHeartbeats 8000000 in
theorem right_4 (f : Fr) (hk : f.k = 4) (hf : FrOk f) : Sat Tryz.prog 55 [.d (frD f)] [] (bA (rightK f 4)) [] := by
  have f1 := fields_f f 4 hk (by decide) (by decide)
  have f2 := fields_n 4 (by decide) (by decide) 0 0 0 0 0 0 0 0 0
  have hb := bareF_ok hf (k := 4) (by decide)
  have hh := headOk_iff (f := f)
  have h0 := rightK_head (f := f) (k := 4)
  have hv := fun x => rightK_val (f := f) (k := 4) (x := x)
  have hs := rightK_same (f := f) (k := 4)
  have hx := rightK_extra (f := f) (k := 4)
  have sm := same_pre f (bareF f 4) hf hb (xs := nilR (bareF f 4)) (by repeat' (first | exact trivial | refine And.intro ?_ ?_ | exact .inl rfl | exact .inr ⟨rfl, _, rfl⟩))
  obtain ⟨kk, a, e, b, c, g, s, n, t, w, ev, sr, d⟩ := f
  have hk : kk = 4 := hk
  subst hk
  simp only at hh
  cases hho : headOk ⟨4, a, e, b, c, g, s, n, t, w, ev, sr, d⟩ with
  | false =>
    have hneg : ¬ (decide (a < 0) = false ∧ decide (a ≥ 64) = false ∧ decide (e < 0) = false ∧ decide (e > 1099511627776) = false) := by
      rintro ⟨q1, q2, q3, q4⟩
      have q1 := of_decide_eq_false q1
      have q2 := of_decide_eq_false q2
      have q3 := of_decide_eq_false q3
      have q4 := of_decide_eq_false q4
      rw [hh.2 ⟨⟨by omega, by omega⟩, by omega, by omega⟩] at hho
      cases hho
    rw [h0 hho]
    refine sat_of_vc (T := tiOf Tryz.prog) (E := E0) Tryz.func55 rfl rfl hE0 hm0 rfl ?_
    conv => whnf
    iterate 3
      repeat' (first | exact True.intro | ((first | refine Yb fun _ => ?_ | refine Yc fun _ => ?_ | refine Ya (by kernel_rfl) ?_ | refine Ya (by decide) ?_ | refine Yd (by decide) fun _ => ?_ | refine Ye (by decide) fun _ => ?_ | refine ⟨_, _, f1.at1 0 rfl rfl rfl, ?_⟩ | refine ⟨_, _, eqnP (by kernel_rfl), ?_⟩); conv => whnf) | (refine Ya (fun _ => ?_) (fun _ => ?_) <;> conv => whnf))
      all_goals try (refine Or.inl ?_; conv => whnf)
    all_goals try exact (hneg ⟨‹_›, ‹_›, ‹_›, ‹_›⟩).elim
    all_goals refine ⟨[], ?_⟩
    repeat (any_goals (first | exact True.intro | exact rfl | exact (by kernel_rfl) | refine Ya ?_ ?_))
    all_goals conv => whnf
  | true =>
  obtain ⟨⟨q1, q2⟩, q3, q4⟩ := hh.1 hho
  have d1 : decide (a < 0) = false := decide_eq_false (by omega)
  have d2 : decide (a ≥ 64) = false := decide_eq_false (by omega)
  have d3 : decide (e < 0) = false := decide_eq_false (by omega)
  have d4 : decide (e > 1099511627776) = false := decide_eq_false (by omega)
  refine sat_of_vc (T := tiOf Tryz.prog) (E := E0) Tryz.func55 rfl rfl hE0 hm0 rfl ?_
  conv => whnf
  iterate 3
    repeat' (first | exact True.intro | ((first | refine Yb fun _ => ?_ | refine Yc fun _ => ?_ | refine Ya (by kernel_rfl) ?_ | refine Ya (by decide) ?_ | refine Yd (by decide) fun _ => ?_ | refine Ye (by decide) fun _ => ?_ | refine ⟨_, _, f1.at1 0 rfl rfl rfl, ?_⟩ | refine ⟨_, _, eqnP (by kernel_rfl), ?_⟩); conv => whnf) | (refine Ya (fun _ => ?_) (fun _ => ?_) <;> conv => whnf))
    all_goals try (refine Or.inl ?_; conv => whnf)
  all_goals try exact (bnl ‹_› d1).elim
  all_goals try exact (bnl ‹_› d2).elim
  all_goals try exact (bnl ‹_› d3).elim
  all_goals try exact (bnl ‹_› d4).elim
  iterate 3
    repeat' (first | exact True.intro | ((first | refine Yb fun _ => ?_ | refine Yc fun _ => ?_ | refine Ya (by kernel_rfl) ?_ | refine Ya (by decide) ?_ | refine Yd (by decide) fun _ => ?_ | refine Ye (by decide) fun _ => ?_ | refine ⟨_, _, f2.at1 2 rfl rfl rfl, ?_⟩ | refine ⟨_, _, lenP (by kernel_rfl), ?_⟩); conv => whnf) | (refine Ya (fun _ => ?_) (fun _ => ?_) <;> conv => whnf))
    all_goals try (refine Or.inl ?_; conv => whnf)
  refine ⟨Nat, fun i => i ≤ 6 ∧ ((valsK ⟨4, a, e, b, c, g, s, n, t, w, ev, sr, d⟩ 4).take i).all rngB = true, fun i => ([(43, iA i), (42, iA 6), (41, .rel 1 (slP 6)), (5, .rel 3 (slP 6)), (4, .ptr 2 0), (1, .ptr 0 0)], [.cells (frA ⟨4, a, e, b, c, g, s, n, t, w, ev, sr, d⟩), .cells (ptrsK 4), .cells (frN 4 (bI ⟨4, a, e, b, c, g, s, n, t, w, ev, sr, d⟩ 4 i 1) (bI ⟨4, a, e, b, c, g, s, n, t, w, ev, sr, d⟩ 4 i 2) (bI ⟨4, a, e, b, c, g, s, n, t, w, ev, sr, d⟩ 4 i 3) (bI ⟨4, a, e, b, c, g, s, n, t, w, ev, sr, d⟩ 4 i 4) (bI ⟨4, a, e, b, c, g, s, n, t, w, ev, sr, d⟩ 4 i 5) (bI ⟨4, a, e, b, c, g, s, n, t, w, ev, sr, d⟩ 4 i 6) (bI ⟨4, a, e, b, c, g, s, n, t, w, ev, sr, d⟩ 4 i 7) (bI ⟨4, a, e, b, c, g, s, n, t, w, ev, sr, d⟩ 4 i 8) (bI ⟨4, a, e, b, c, g, s, n, t, w, ev, sr, d⟩ 4 i 9)), .cells ((idxK 4).map fun j => .ptr 2 j)]), fun i => 6 - i, ⟨0, ⟨Nat.zero_le _, rfl⟩, ?_⟩, ?_⟩
  · all_goals refine ⟨[], ?_⟩
    repeat (any_goals (first | exact True.intro | exact rfl | exact (by kernel_rfl) | refine Ya ?_ ?_))
    all_goals conv => whnf
  rintro i ⟨hi, hI⟩
  have hi : i ≤ 6 := hi
  obtain rfl | rfl | rfl | rfl | rfl | rfl | rfl : i = 0 ∨ i = 1 ∨ i = 2 ∨ i = 3 ∨ i = 4 ∨ i = 5 ∨ i = 6 := by omega
  · conv => whnf
    cases hr : rngB a with
    | false =>
      have hneg : ¬ (decide (a < 0) = false ∧ decide (a > 4611686018427387903) = false) := by
        rintro ⟨p1, p2⟩
        have p1 := of_decide_eq_false p1
        have p2 := of_decide_eq_false p2
        rw [rngB_iff.2 ⟨by omega, by omega⟩] at hr
        cases hr
      rw [hv a (by simp [valsK, idxK, getN]) hr]
      iterate 4
        repeat' (first | exact True.intro | ((first | refine Yb fun _ => ?_ | refine Yc fun _ => ?_ | refine Ya (by kernel_rfl) ?_ | refine Ya (by decide) ?_ | refine Yd (by decide) fun _ => ?_ | refine Ye (by decide) fun _ => ?_ | refine ⟨_, _, ixP (by kernel_rfl) (by kernel_rfl) (by decide), ?_⟩); conv => whnf) | (refine Ya (fun _ => ?_) (fun _ => ?_) <;> conv => whnf))
        all_goals try (refine Or.inl ?_; conv => whnf)
      all_goals try exact (hneg ⟨‹_›, ‹_›⟩).elim
      all_goals refine ⟨[], ?_⟩
      repeat (any_goals (first | exact True.intro | exact rfl | exact (by kernel_rfl) | refine Ya ?_ ?_))
      all_goals conv => whnf
    | true =>
      obtain ⟨p1, p2⟩ := rngB_iff.1 hr
      have d5 : decide (a < 0) = false := decide_eq_false (by omega)
      have d6 : decide (a > 4611686018427387903) = false := decide_eq_false (by omega)
      iterate 5
        repeat' (first | exact True.intro | ((first | refine Yb fun _ => ?_ | refine Yc fun _ => ?_ | refine Ya (by kernel_rfl) ?_ | refine Ya (by decide) ?_ | refine Yd (by decide) fun _ => ?_ | refine Ye (by decide) fun _ => ?_ | refine ⟨_, _, ixP (by kernel_rfl) (by kernel_rfl) (by decide), ?_⟩); conv => whnf) | (refine Ya (fun _ => ?_) (fun _ => ?_) <;> conv => whnf))
        all_goals try (refine Or.inl ?_; conv => whnf)
      all_goals try exact (bnl ‹_› d5).elim
      all_goals try exact (bnl ‹_› d6).elim
      refine ⟨1, ⟨by decide, by first | (rw [show 1 = 0 + 1 from rfl, List.take_add_one, List.all_append, hI]; simp [valsK, idxK, getN, hr])⟩, by decide, ?_⟩
      all_goals refine ⟨[], ?_⟩
      repeat (any_goals (first | exact True.intro | exact rfl | exact (by kernel_rfl) | refine Ya ?_ ?_))
      all_goals conv => whnf
  · conv => whnf
    cases hr : rngB e with
    | false =>
      have hneg : ¬ (decide (e < 0) = false ∧ decide (e > 4611686018427387903) = false) := by
        rintro ⟨p1, p2⟩
        have p1 := of_decide_eq_false p1
        have p2 := of_decide_eq_false p2
        rw [rngB_iff.2 ⟨by omega, by omega⟩] at hr
        cases hr
      rw [hv e (by simp [valsK, idxK, getN]) hr]
      iterate 4
        repeat' (first | exact True.intro | ((first | refine Yb fun _ => ?_ | refine Yc fun _ => ?_ | refine Ya (by kernel_rfl) ?_ | refine Ya (by decide) ?_ | refine Yd (by decide) fun _ => ?_ | refine Ye (by decide) fun _ => ?_ | refine ⟨_, _, ixP (by kernel_rfl) (by kernel_rfl) (by decide), ?_⟩); conv => whnf) | (refine Ya (fun _ => ?_) (fun _ => ?_) <;> conv => whnf))
        all_goals try (refine Or.inl ?_; conv => whnf)
      all_goals try exact (hneg ⟨‹_›, ‹_›⟩).elim
      all_goals refine ⟨[], ?_⟩
      repeat (any_goals (first | exact True.intro | exact rfl | exact (by kernel_rfl) | refine Ya ?_ ?_))
      all_goals conv => whnf
    | true =>
      obtain ⟨p1, p2⟩ := rngB_iff.1 hr
      have d5 : decide (e < 0) = false := decide_eq_false (by omega)
      have d6 : decide (e > 4611686018427387903) = false := decide_eq_false (by omega)
      iterate 5
        repeat' (first | exact True.intro | ((first | refine Yb fun _ => ?_ | refine Yc fun _ => ?_ | refine Ya (by kernel_rfl) ?_ | refine Ya (by decide) ?_ | refine Yd (by decide) fun _ => ?_ | refine Ye (by decide) fun _ => ?_ | refine ⟨_, _, ixP (by kernel_rfl) (by kernel_rfl) (by decide), ?_⟩); conv => whnf) | (refine Ya (fun _ => ?_) (fun _ => ?_) <;> conv => whnf))
        all_goals try (refine Or.inl ?_; conv => whnf)
      all_goals try exact (bnl ‹_› d5).elim
      all_goals try exact (bnl ‹_› d6).elim
      refine ⟨2, ⟨by decide, by first | (rw [show 2 = 1 + 1 from rfl, List.take_add_one, List.all_append, hI]; simp [valsK, idxK, getN, hr])⟩, by decide, ?_⟩
      all_goals refine ⟨[], ?_⟩
      repeat (any_goals (first | exact True.intro | exact rfl | exact (by kernel_rfl) | refine Ya ?_ ?_))
      all_goals conv => whnf
  · conv => whnf
    cases hr : rngB b with
    | false =>
      have hneg : ¬ (decide (b < 0) = false ∧ decide (b > 4611686018427387903) = false) := by
        rintro ⟨p1, p2⟩
        have p1 := of_decide_eq_false p1
        have p2 := of_decide_eq_false p2
        rw [rngB_iff.2 ⟨by omega, by omega⟩] at hr
        cases hr
      rw [hv b (by simp [valsK, idxK, getN]) hr]
      iterate 4
        repeat' (first | exact True.intro | ((first | refine Yb fun _ => ?_ | refine Yc fun _ => ?_ | refine Ya (by kernel_rfl) ?_ | refine Ya (by decide) ?_ | refine Yd (by decide) fun _ => ?_ | refine Ye (by decide) fun _ => ?_ | refine ⟨_, _, ixP (by kernel_rfl) (by kernel_rfl) (by decide), ?_⟩); conv => whnf) | (refine Ya (fun _ => ?_) (fun _ => ?_) <;> conv => whnf))
        all_goals try (refine Or.inl ?_; conv => whnf)
      all_goals try exact (hneg ⟨‹_›, ‹_›⟩).elim
      all_goals refine ⟨[], ?_⟩
      repeat (any_goals (first | exact True.intro | exact rfl | exact (by kernel_rfl) | refine Ya ?_ ?_))
      all_goals conv => whnf
    | true =>
      obtain ⟨p1, p2⟩ := rngB_iff.1 hr
      have d5 : decide (b < 0) = false := decide_eq_false (by omega)
      have d6 : decide (b > 4611686018427387903) = false := decide_eq_false (by omega)
      iterate 5
        repeat' (first | exact True.intro | ((first | refine Yb fun _ => ?_ | refine Yc fun _ => ?_ | refine Ya (by kernel_rfl) ?_ | refine Ya (by decide) ?_ | refine Yd (by decide) fun _ => ?_ | refine Ye (by decide) fun _ => ?_ | refine ⟨_, _, ixP (by kernel_rfl) (by kernel_rfl) (by decide), ?_⟩); conv => whnf) | (refine Ya (fun _ => ?_) (fun _ => ?_) <;> conv => whnf))
        all_goals try (refine Or.inl ?_; conv => whnf)
      all_goals try exact (bnl ‹_› d5).elim
      all_goals try exact (bnl ‹_› d6).elim
      refine ⟨3, ⟨by decide, by first | (rw [show 3 = 2 + 1 from rfl, List.take_add_one, List.all_append, hI]; simp [valsK, idxK, getN, hr])⟩, by decide, ?_⟩
      all_goals refine ⟨[], ?_⟩
      repeat (any_goals (first | exact True.intro | exact rfl | exact (by kernel_rfl) | refine Ya ?_ ?_))
      all_goals conv => whnf
  · conv => whnf
    cases hr : rngB c with
    | false =>
      have hneg : ¬ (decide (c < 0) = false ∧ decide (c > 4611686018427387903) = false) := by
        rintro ⟨p1, p2⟩
        have p1 := of_decide_eq_false p1
        have p2 := of_decide_eq_false p2
        rw [rngB_iff.2 ⟨by omega, by omega⟩] at hr
        cases hr
      rw [hv c (by simp [valsK, idxK, getN]) hr]
      iterate 4
        repeat' (first | exact True.intro | ((first | refine Yb fun _ => ?_ | refine Yc fun _ => ?_ | refine Ya (by kernel_rfl) ?_ | refine Ya (by decide) ?_ | refine Yd (by decide) fun _ => ?_ | refine Ye (by decide) fun _ => ?_ | refine ⟨_, _, ixP (by kernel_rfl) (by kernel_rfl) (by decide), ?_⟩); conv => whnf) | (refine Ya (fun _ => ?_) (fun _ => ?_) <;> conv => whnf))
        all_goals try (refine Or.inl ?_; conv => whnf)
      all_goals try exact (hneg ⟨‹_›, ‹_›⟩).elim
      all_goals refine ⟨[], ?_⟩
      repeat (any_goals (first | exact True.intro | exact rfl | exact (by kernel_rfl) | refine Ya ?_ ?_))
      all_goals conv => whnf
    | true =>
      obtain ⟨p1, p2⟩ := rngB_iff.1 hr
      have d5 : decide (c < 0) = false := decide_eq_false (by omega)
      have d6 : decide (c > 4611686018427387903) = false := decide_eq_false (by omega)
      iterate 5
        repeat' (first | exact True.intro | ((first | refine Yb fun _ => ?_ | refine Yc fun _ => ?_ | refine Ya (by kernel_rfl) ?_ | refine Ya (by decide) ?_ | refine Yd (by decide) fun _ => ?_ | refine Ye (by decide) fun _ => ?_ | refine ⟨_, _, ixP (by kernel_rfl) (by kernel_rfl) (by decide), ?_⟩); conv => whnf) | (refine Ya (fun _ => ?_) (fun _ => ?_) <;> conv => whnf))
        all_goals try (refine Or.inl ?_; conv => whnf)
      all_goals try exact (bnl ‹_› d5).elim
      all_goals try exact (bnl ‹_› d6).elim
      refine ⟨4, ⟨by decide, by first | (rw [show 4 = 3 + 1 from rfl, List.take_add_one, List.all_append, hI]; simp [valsK, idxK, getN, hr])⟩, by decide, ?_⟩
      all_goals refine ⟨[], ?_⟩
      repeat (any_goals (first | exact True.intro | exact rfl | exact (by kernel_rfl) | refine Ya ?_ ?_))
      all_goals conv => whnf
  · conv => whnf
    cases hr : rngB g with
    | false =>
      have hneg : ¬ (decide (g < 0) = false ∧ decide (g > 4611686018427387903) = false) := by
        rintro ⟨p1, p2⟩
        have p1 := of_decide_eq_false p1
        have p2 := of_decide_eq_false p2
        rw [rngB_iff.2 ⟨by omega, by omega⟩] at hr
        cases hr
      rw [hv g (by simp [valsK, idxK, getN]) hr]
      iterate 4
        repeat' (first | exact True.intro | ((first | refine Yb fun _ => ?_ | refine Yc fun _ => ?_ | refine Ya (by kernel_rfl) ?_ | refine Ya (by decide) ?_ | refine Yd (by decide) fun _ => ?_ | refine Ye (by decide) fun _ => ?_ | refine ⟨_, _, ixP (by kernel_rfl) (by kernel_rfl) (by decide), ?_⟩); conv => whnf) | (refine Ya (fun _ => ?_) (fun _ => ?_) <;> conv => whnf))
        all_goals try (refine Or.inl ?_; conv => whnf)
      all_goals try exact (hneg ⟨‹_›, ‹_›⟩).elim
      all_goals refine ⟨[], ?_⟩
      repeat (any_goals (first | exact True.intro | exact rfl | exact (by kernel_rfl) | refine Ya ?_ ?_))
      all_goals conv => whnf
    | true =>
      obtain ⟨p1, p2⟩ := rngB_iff.1 hr
      have d5 : decide (g < 0) = false := decide_eq_false (by omega)
      have d6 : decide (g > 4611686018427387903) = false := decide_eq_false (by omega)
      iterate 5
        repeat' (first | exact True.intro | ((first | refine Yb fun _ => ?_ | refine Yc fun _ => ?_ | refine Ya (by kernel_rfl) ?_ | refine Ya (by decide) ?_ | refine Yd (by decide) fun _ => ?_ | refine Ye (by decide) fun _ => ?_ | refine ⟨_, _, ixP (by kernel_rfl) (by kernel_rfl) (by decide), ?_⟩); conv => whnf) | (refine Ya (fun _ => ?_) (fun _ => ?_) <;> conv => whnf))
        all_goals try (refine Or.inl ?_; conv => whnf)
      all_goals try exact (bnl ‹_› d5).elim
      all_goals try exact (bnl ‹_› d6).elim
      refine ⟨5, ⟨by decide, by first | (rw [show 5 = 4 + 1 from rfl, List.take_add_one, List.all_append, hI]; simp [valsK, idxK, getN, hr])⟩, by decide, ?_⟩
      all_goals refine ⟨[], ?_⟩
      repeat (any_goals (first | exact True.intro | exact rfl | exact (by kernel_rfl) | refine Ya ?_ ?_))
      all_goals conv => whnf
  · conv => whnf
    cases hr : rngB s with
    | false =>
      have hneg : ¬ (decide (s < 0) = false ∧ decide (s > 4611686018427387903) = false) := by
        rintro ⟨p1, p2⟩
        have p1 := of_decide_eq_false p1
        have p2 := of_decide_eq_false p2
        rw [rngB_iff.2 ⟨by omega, by omega⟩] at hr
        cases hr
      rw [hv s (by simp [valsK, idxK, getN]) hr]
      iterate 4
        repeat' (first | exact True.intro | ((first | refine Yb fun _ => ?_ | refine Yc fun _ => ?_ | refine Ya (by kernel_rfl) ?_ | refine Ya (by decide) ?_ | refine Yd (by decide) fun _ => ?_ | refine Ye (by decide) fun _ => ?_ | refine ⟨_, _, ixP (by kernel_rfl) (by kernel_rfl) (by decide), ?_⟩); conv => whnf) | (refine Ya (fun _ => ?_) (fun _ => ?_) <;> conv => whnf))
        all_goals try (refine Or.inl ?_; conv => whnf)
      all_goals try exact (hneg ⟨‹_›, ‹_›⟩).elim
      all_goals refine ⟨[], ?_⟩
      repeat (any_goals (first | exact True.intro | exact rfl | exact (by kernel_rfl) | refine Ya ?_ ?_))
      all_goals conv => whnf
    | true =>
      obtain ⟨p1, p2⟩ := rngB_iff.1 hr
      have d5 : decide (s < 0) = false := decide_eq_false (by omega)
      have d6 : decide (s > 4611686018427387903) = false := decide_eq_false (by omega)
      iterate 5
        repeat' (first | exact True.intro | ((first | refine Yb fun _ => ?_ | refine Yc fun _ => ?_ | refine Ya (by kernel_rfl) ?_ | refine Ya (by decide) ?_ | refine Yd (by decide) fun _ => ?_ | refine Ye (by decide) fun _ => ?_ | refine ⟨_, _, ixP (by kernel_rfl) (by kernel_rfl) (by decide), ?_⟩); conv => whnf) | (refine Ya (fun _ => ?_) (fun _ => ?_) <;> conv => whnf))
        all_goals try (refine Or.inl ?_; conv => whnf)
      all_goals try exact (bnl ‹_› d5).elim
      all_goals try exact (bnl ‹_› d6).elim
      refine ⟨6, ⟨by decide, by first | (rw [show 6 = 5 + 1 from rfl, List.take_add_one, List.all_append, hI]; simp [valsK, idxK, getN, hr])⟩, by decide, ?_⟩
      all_goals refine ⟨[], ?_⟩
      repeat (any_goals (first | exact True.intro | exact rfl | exact (by kernel_rfl) | refine Ya ?_ ?_))
      all_goals conv => whnf
  have hall : (valsK ⟨4, a, e, b, c, g, s, n, t, w, ev, sr, d⟩ 4).all rngB = true := hI
  conv => whnf
  by_cases hx4 : s < g
  · have d7 : decide (s < g) = true := decide_eq_true hx4
    rw [hx (by show (!decide (s < g)) = false; rw [d7]; rfl)]
    iterate 9
      repeat' (first | exact True.intro | ((first | refine Yb fun _ => ?_ | refine Yc fun _ => ?_ | refine Ya (by kernel_rfl) ?_ | refine Ya (by decide) ?_ | refine Yd (by decide) fun _ => ?_ | refine Ye (by decide) fun _ => ?_ | refine ⟨_, _, sm.pu rfl rfl, ?_⟩); conv => whnf) | (refine Ya (fun _ => ?_) (fun _ => ?_) <;> conv => whnf))
      all_goals try (refine Or.inl ?_; conv => whnf)
    all_goals try exact (bnl d7 ‹_›).elim
    all_goals try (exfalso; simp only [outL] at *; first | omega | contradiction | (simp_all; done) | (simp_all; omega))
    all_goals refine ⟨[], ?_⟩
    repeat (any_goals (first | exact True.intro | exact rfl | exact (by kernel_rfl) | refine Ya ?_ ?_))
    all_goals conv => whnf
  · have d7 : decide (s < g) = false := decide_eq_false hx4
    rw [hs hho hall (by show (!decide (s < g)) = true; rw [d7]; rfl)]
    iterate 9
      repeat' (first | exact True.intro | ((first | refine Yb fun _ => ?_ | refine Yc fun _ => ?_ | refine Ya (by kernel_rfl) ?_ | refine Ya (by decide) ?_ | refine Yd (by decide) fun _ => ?_ | refine Ye (by decide) fun _ => ?_ | refine ⟨_, _, sm.pu rfl rfl, ?_⟩); conv => whnf) | (refine Ya (fun _ => ?_) (fun _ => ?_) <;> conv => whnf))
      all_goals try (refine Or.inl ?_; conv => whnf)
    all_goals try exact (bnl ‹_› d7).elim
    all_goals try (exfalso; simp only [outL] at *; first | omega | contradiction | (simp_all; done) | (simp_all; omega))
    all_goals refine ⟨[], ?_⟩
    repeat (any_goals (first | exact True.intro | exact rfl | exact (by kernel_rfl) | refine Ya ?_ ?_))
    all_goals conv => whnf
set_option maxHeartbeats 8000000 in
theorem right_5 (f : Fr) (hk : f.k = 5) (hf : FrOk f) : Sat Tryz.prog 55 [.d (frD f)] [] (bA (rightK f 5)) [] := by
  have f1 := fields_f f 5 hk (by decide) (by decide)
  have f2 := fields_n 5 (by decide) (by decide) 0 0 0 0 0 0 0 0 0
  have hb := bareF_ok hf (k := 5) (by decide)
  have hh := headOk_iff (f := f)
  have h0 := rightK_head (f := f) (k := 5)
  have hv := fun x => rightK_val (f := f) (k := 5) (x := x)
  have hs := rightK_same (f := f) (k := 5)
  have hx := rightK_extra (f := f) (k := 5)
  have sm := same_pre f (bareF f 5) hf hb (xs := [iD (bareF f 5).k, iD (bareF f 5).a, iD (bareF f 5).e, iD (bareF f 5).b, iD (bareF f 5).c, iD (bareF f 5).g, iD (bareF f 5).s, iD (bareF f 5).n, iD (bareF f 5).t, iD (bareF f 5).w, .sl 4 (f.ev.map evR), tD [], nilV, nilV]) (by repeat' (first | exact trivial | refine And.intro ?_ ?_ | exact .inl rfl | exact .inr ⟨rfl, _, rfl⟩))
  have b1 := batch_sat f.n f.ev hf.evn
  obtain ⟨kk, a, e, b, c, g, s, n, t, w, ev, sr, d⟩ := f
  have hk : kk = 5 := hk
  subst hk
  simp only at hh
  cases hho : headOk ⟨5, a, e, b, c, g, s, n, t, w, ev, sr, d⟩ with
  | false =>
    have hneg : ¬ (decide (a < 0) = false ∧ decide (a ≥ 64) = false ∧ decide (e < 0) = false ∧ decide (e > 1099511627776) = false) := by
      rintro ⟨q1, q2, q3, q4⟩
      have q1 := of_decide_eq_false q1
      have q2 := of_decide_eq_false q2
      have q3 := of_decide_eq_false q3
      have q4 := of_decide_eq_false q4
      rw [hh.2 ⟨⟨by omega, by omega⟩, by omega, by omega⟩] at hho
      cases hho
    rw [h0 hho]
    refine sat_of_vc (T := tiOf Tryz.prog) (E := E0) Tryz.func55 rfl rfl hE0 hm0 rfl ?_
    conv => whnf
    iterate 3
      repeat' (first | exact True.intro | ((first | refine Yb fun _ => ?_ | refine Yc fun _ => ?_ | refine Ya (by kernel_rfl) ?_ | refine Ya (by decide) ?_ | refine Yd (by decide) fun _ => ?_ | refine Ye (by decide) fun _ => ?_ | refine ⟨_, _, f1.at1 0 rfl rfl rfl, ?_⟩ | refine ⟨_, _, eqnP (by kernel_rfl), ?_⟩); conv => whnf) | (refine Ya (fun _ => ?_) (fun _ => ?_) <;> conv => whnf))
      all_goals try (refine Or.inl ?_; conv => whnf)
    all_goals try exact (hneg ⟨‹_›, ‹_›, ‹_›, ‹_›⟩).elim
    all_goals refine ⟨[], ?_⟩
    repeat (any_goals (first | exact True.intro | exact rfl | exact (by kernel_rfl) | refine Ya ?_ ?_))
    all_goals conv => whnf
  | true =>
  obtain ⟨⟨q1, q2⟩, q3, q4⟩ := hh.1 hho
  have d1 : decide (a < 0) = false := decide_eq_false (by omega)
  have d2 : decide (a ≥ 64) = false := decide_eq_false (by omega)
  have d3 : decide (e < 0) = false := decide_eq_false (by omega)
  have d4 : decide (e > 1099511627776) = false := decide_eq_false (by omega)
  refine sat_of_vc (T := tiOf Tryz.prog) (E := E0) Tryz.func55 rfl rfl hE0 hm0 rfl ?_
  conv => whnf
  iterate 3
    repeat' (first | exact True.intro | ((first | refine Yb fun _ => ?_ | refine Yc fun _ => ?_ | refine Ya (by kernel_rfl) ?_ | refine Ya (by decide) ?_ | refine Yd (by decide) fun _ => ?_ | refine Ye (by decide) fun _ => ?_ | refine ⟨_, _, f1.at1 0 rfl rfl rfl, ?_⟩ | refine ⟨_, _, eqnP (by kernel_rfl), ?_⟩); conv => whnf) | (refine Ya (fun _ => ?_) (fun _ => ?_) <;> conv => whnf))
    all_goals try (refine Or.inl ?_; conv => whnf)
  all_goals try exact (bnl ‹_› d1).elim
  all_goals try exact (bnl ‹_› d2).elim
  all_goals try exact (bnl ‹_› d3).elim
  all_goals try exact (bnl ‹_› d4).elim
  iterate 3
    repeat' (first | exact True.intro | ((first | refine Yb fun _ => ?_ | refine Yc fun _ => ?_ | refine Ya (by kernel_rfl) ?_ | refine Ya (by decide) ?_ | refine Yd (by decide) fun _ => ?_ | refine Ye (by decide) fun _ => ?_ | refine ⟨_, _, f2.at1 2 rfl rfl rfl, ?_⟩ | refine ⟨_, _, lenP (by kernel_rfl), ?_⟩); conv => whnf) | (refine Ya (fun _ => ?_) (fun _ => ?_) <;> conv => whnf))
    all_goals try (refine Or.inl ?_; conv => whnf)
  refine ⟨Nat, fun i => i ≤ 3 ∧ ((valsK ⟨5, a, e, b, c, g, s, n, t, w, ev, sr, d⟩ 5).take i).all rngB = true, fun i => ([(43, iA i), (42, iA 3), (41, .rel 1 (slP 3)), (5, .rel 3 (slP 3)), (4, .ptr 2 0), (1, .ptr 0 0)], [.cells (frA ⟨5, a, e, b, c, g, s, n, t, w, ev, sr, d⟩), .cells (ptrsK 5), .cells (frN 5 (bI ⟨5, a, e, b, c, g, s, n, t, w, ev, sr, d⟩ 5 i 1) (bI ⟨5, a, e, b, c, g, s, n, t, w, ev, sr, d⟩ 5 i 2) (bI ⟨5, a, e, b, c, g, s, n, t, w, ev, sr, d⟩ 5 i 3) (bI ⟨5, a, e, b, c, g, s, n, t, w, ev, sr, d⟩ 5 i 4) (bI ⟨5, a, e, b, c, g, s, n, t, w, ev, sr, d⟩ 5 i 5) (bI ⟨5, a, e, b, c, g, s, n, t, w, ev, sr, d⟩ 5 i 6) (bI ⟨5, a, e, b, c, g, s, n, t, w, ev, sr, d⟩ 5 i 7) (bI ⟨5, a, e, b, c, g, s, n, t, w, ev, sr, d⟩ 5 i 8) (bI ⟨5, a, e, b, c, g, s, n, t, w, ev, sr, d⟩ 5 i 9)), .cells ((idxK 5).map fun j => .ptr 2 j)]), fun i => 3 - i, ⟨0, ⟨Nat.zero_le _, rfl⟩, ?_⟩, ?_⟩
  · all_goals refine ⟨[], ?_⟩
    repeat (any_goals (first | exact True.intro | exact rfl | exact (by kernel_rfl) | refine Ya ?_ ?_))
    all_goals conv => whnf
  rintro i ⟨hi, hI⟩
  have hi : i ≤ 3 := hi
  obtain rfl | rfl | rfl | rfl : i = 0 ∨ i = 1 ∨ i = 2 ∨ i = 3 := by omega
  · conv => whnf
    cases hr : rngB a with
    | false =>
      have hneg : ¬ (decide (a < 0) = false ∧ decide (a > 4611686018427387903) = false) := by
        rintro ⟨p1, p2⟩
        have p1 := of_decide_eq_false p1
        have p2 := of_decide_eq_false p2
        rw [rngB_iff.2 ⟨by omega, by omega⟩] at hr
        cases hr
      rw [hv a (by simp [valsK, idxK, getN]) hr]
      iterate 4
        repeat' (first | exact True.intro | ((first | refine Yb fun _ => ?_ | refine Yc fun _ => ?_ | refine Ya (by kernel_rfl) ?_ | refine Ya (by decide) ?_ | refine Yd (by decide) fun _ => ?_ | refine Ye (by decide) fun _ => ?_ | refine ⟨_, _, ixP (by kernel_rfl) (by kernel_rfl) (by decide), ?_⟩); conv => whnf) | (refine Ya (fun _ => ?_) (fun _ => ?_) <;> conv => whnf))
        all_goals try (refine Or.inl ?_; conv => whnf)
      all_goals try exact (hneg ⟨‹_›, ‹_›⟩).elim
      all_goals refine ⟨[], ?_⟩
      repeat (any_goals (first | exact True.intro | exact rfl | exact (by kernel_rfl) | refine Ya ?_ ?_))
      all_goals conv => whnf
    | true =>
      obtain ⟨p1, p2⟩ := rngB_iff.1 hr
      have d5 : decide (a < 0) = false := decide_eq_false (by omega)
      have d6 : decide (a > 4611686018427387903) = false := decide_eq_false (by omega)
      iterate 5
        repeat' (first | exact True.intro | ((first | refine Yb fun _ => ?_ | refine Yc fun _ => ?_ | refine Ya (by kernel_rfl) ?_ | refine Ya (by decide) ?_ | refine Yd (by decide) fun _ => ?_ | refine Ye (by decide) fun _ => ?_ | refine ⟨_, _, ixP (by kernel_rfl) (by kernel_rfl) (by decide), ?_⟩); conv => whnf) | (refine Ya (fun _ => ?_) (fun _ => ?_) <;> conv => whnf))
        all_goals try (refine Or.inl ?_; conv => whnf)
      all_goals try exact (bnl ‹_› d5).elim
      all_goals try exact (bnl ‹_› d6).elim
      refine ⟨1, ⟨by decide, by first | (rw [show 1 = 0 + 1 from rfl, List.take_add_one, List.all_append, hI]; simp [valsK, idxK, getN, hr])⟩, by decide, ?_⟩
      all_goals refine ⟨[], ?_⟩
      repeat (any_goals (first | exact True.intro | exact rfl | exact (by kernel_rfl) | refine Ya ?_ ?_))
      all_goals conv => whnf
  · conv => whnf
    cases hr : rngB e with
    | false =>
      have hneg : ¬ (decide (e < 0) = false ∧ decide (e > 4611686018427387903) = false) := by
        rintro ⟨p1, p2⟩
        have p1 := of_decide_eq_false p1
        have p2 := of_decide_eq_false p2
        rw [rngB_iff.2 ⟨by omega, by omega⟩] at hr
        cases hr
      rw [hv e (by simp [valsK, idxK, getN]) hr]
      iterate 4
        repeat' (first | exact True.intro | ((first | refine Yb fun _ => ?_ | refine Yc fun _ => ?_ | refine Ya (by kernel_rfl) ?_ | refine Ya (by decide) ?_ | refine Yd (by decide) fun _ => ?_ | refine Ye (by decide) fun _ => ?_ | refine ⟨_, _, ixP (by kernel_rfl) (by kernel_rfl) (by decide), ?_⟩); conv => whnf) | (refine Ya (fun _ => ?_) (fun _ => ?_) <;> conv => whnf))
        all_goals try (refine Or.inl ?_; conv => whnf)
      all_goals try exact (hneg ⟨‹_›, ‹_›⟩).elim
      all_goals refine ⟨[], ?_⟩
      repeat (any_goals (first | exact True.intro | exact rfl | exact (by kernel_rfl) | refine Ya ?_ ?_))
      all_goals conv => whnf
    | true =>
      obtain ⟨p1, p2⟩ := rngB_iff.1 hr
      have d5 : decide (e < 0) = false := decide_eq_false (by omega)
      have d6 : decide (e > 4611686018427387903) = false := decide_eq_false (by omega)
      iterate 5
        repeat' (first | exact True.intro | ((first | refine Yb fun _ => ?_ | refine Yc fun _ => ?_ | refine Ya (by kernel_rfl) ?_ | refine Ya (by decide) ?_ | refine Yd (by decide) fun _ => ?_ | refine Ye (by decide) fun _ => ?_ | refine ⟨_, _, ixP (by kernel_rfl) (by kernel_rfl) (by decide), ?_⟩); conv => whnf) | (refine Ya (fun _ => ?_) (fun _ => ?_) <;> conv => whnf))
        all_goals try (refine Or.inl ?_; conv => whnf)
      all_goals try exact (bnl ‹_› d5).elim
      all_goals try exact (bnl ‹_› d6).elim
      refine ⟨2, ⟨by decide, by first | (rw [show 2 = 1 + 1 from rfl, List.take_add_one, List.all_append, hI]; simp [valsK, idxK, getN, hr])⟩, by decide, ?_⟩
      all_goals refine ⟨[], ?_⟩
      repeat (any_goals (first | exact True.intro | exact rfl | exact (by kernel_rfl) | refine Ya ?_ ?_))
      all_goals conv => whnf
  · conv => whnf
    cases hr : rngB n with
    | false =>
      have hneg : ¬ (decide (n < 0) = false ∧ decide (n > 4611686018427387903) = false) := by
        rintro ⟨p1, p2⟩
        have p1 := of_decide_eq_false p1
        have p2 := of_decide_eq_false p2
        rw [rngB_iff.2 ⟨by omega, by omega⟩] at hr
        cases hr
      rw [hv n (by simp [valsK, idxK, getN]) hr]
      iterate 4
        repeat' (first | exact True.intro | ((first | refine Yb fun _ => ?_ | refine Yc fun _ => ?_ | refine Ya (by kernel_rfl) ?_ | refine Ya (by decide) ?_ | refine Yd (by decide) fun _ => ?_ | refine Ye (by decide) fun _ => ?_ | refine ⟨_, _, ixP (by kernel_rfl) (by kernel_rfl) (by decide), ?_⟩); conv => whnf) | (refine Ya (fun _ => ?_) (fun _ => ?_) <;> conv => whnf))
        all_goals try (refine Or.inl ?_; conv => whnf)
      all_goals try exact (hneg ⟨‹_›, ‹_›⟩).elim
      all_goals refine ⟨[], ?_⟩
      repeat (any_goals (first | exact True.intro | exact rfl | exact (by kernel_rfl) | refine Ya ?_ ?_))
      all_goals conv => whnf
    | true =>
      obtain ⟨p1, p2⟩ := rngB_iff.1 hr
      have d5 : decide (n < 0) = false := decide_eq_false (by omega)
      have d6 : decide (n > 4611686018427387903) = false := decide_eq_false (by omega)
      iterate 5
        repeat' (first | exact True.intro | ((first | refine Yb fun _ => ?_ | refine Yc fun _ => ?_ | refine Ya (by kernel_rfl) ?_ | refine Ya (by decide) ?_ | refine Yd (by decide) fun _ => ?_ | refine Ye (by decide) fun _ => ?_ | refine ⟨_, _, ixP (by kernel_rfl) (by kernel_rfl) (by decide), ?_⟩); conv => whnf) | (refine Ya (fun _ => ?_) (fun _ => ?_) <;> conv => whnf))
        all_goals try (refine Or.inl ?_; conv => whnf)
      all_goals try exact (bnl ‹_› d5).elim
      all_goals try exact (bnl ‹_› d6).elim
      refine ⟨3, ⟨by decide, by first | (rw [show 3 = 2 + 1 from rfl, List.take_add_one, List.all_append, hI]; simp [valsK, idxK, getN, hr])⟩, by decide, ?_⟩
      all_goals refine ⟨[], ?_⟩
      repeat (any_goals (first | exact True.intro | exact rfl | exact (by kernel_rfl) | refine Ya ?_ ?_))
      all_goals conv => whnf
  have hall : (valsK ⟨5, a, e, b, c, g, s, n, t, w, ev, sr, d⟩ 5).all rngB = true := hI
  conv => whnf
  cases hb5 : batchB n ev with
  | false =>
    rw [hb5] at b1
    rw [hx hb5]
    iterate 9
      repeat' (first | exact True.intro | ((first | refine Yb fun _ => ?_ | refine Yc fun _ => ?_ | refine Ya (by kernel_rfl) ?_ | refine Ya (by decide) ?_ | refine Yd (by decide) fun _ => ?_ | refine Ye (by decide) fun _ => ?_ | refine ⟨_, _, b1.pu rfl rfl, ?_⟩); conv => whnf) | (refine Ya (fun _ => ?_) (fun _ => ?_) <;> conv => whnf))
      all_goals try (refine Or.inl ?_; conv => whnf)
    all_goals try (exfalso; simp only [outL] at *; first | omega | contradiction | (simp_all; done) | (simp_all; omega))
    all_goals refine ⟨[], ?_⟩
    repeat (any_goals (first | exact True.intro | exact rfl | exact (by kernel_rfl) | refine Ya ?_ ?_))
    all_goals conv => whnf
  | true =>
    rw [hb5] at b1
    rw [hs hho hall hb5]
    iterate 9
      repeat' (first | exact True.intro | ((first | refine Yb fun _ => ?_ | refine Yc fun _ => ?_ | refine Ya (by kernel_rfl) ?_ | refine Ya (by decide) ?_ | refine Yd (by decide) fun _ => ?_ | refine Ye (by decide) fun _ => ?_ | refine ⟨_, _, sm.pu rfl rfl, ?_⟩ | refine ⟨_, _, b1.pu rfl rfl, ?_⟩); conv => whnf) | (refine Ya (fun _ => ?_) (fun _ => ?_) <;> conv => whnf))
      all_goals try (refine Or.inl ?_; conv => whnf)
    all_goals try (exfalso; simp only [outL] at *; first | omega | contradiction | (simp_all; done) | (simp_all; omega))
    all_goals refine ⟨[], ?_⟩
    repeat (any_goals (first | exact True.intro | exact rfl | exact (by kernel_rfl) | refine Ya ?_ ?_))
    all_goals conv => whnf
set_option maxHeartbeats 8000000 in
theorem right_6 (f : Fr) (hk : f.k = 6) (hf : FrOk f) : Sat Tryz.prog 55 [.d (frD f)] [] (bA (rightK f 6)) [] := by
  have f1 := fields_f f 6 hk (by decide) (by decide)
  have f2 := fields_n 6 (by decide) (by decide) 0 0 0 0 0 0 0 0 0
  have hb := bareF_ok hf (k := 6) (by decide)
  have hh := headOk_iff (f := f)
  have h0 := rightK_head (f := f) (k := 6)
  have hv := fun x => rightK_val (f := f) (k := 6) (x := x)
  have hs := rightK_same (f := f) (k := 6)
  have hx := rightK_extra (f := f) (k := 6)
  have sm := same_pre f (bareF f 6) hf hb (xs := nilR (bareF f 6)) (by repeat' (first | exact trivial | refine And.intro ?_ ?_ | exact .inl rfl | exact .inr ⟨rfl, _, rfl⟩))
  obtain ⟨kk, a, e, b, c, g, s, n, t, w, ev, sr, d⟩ := f
  have hk : kk = 6 := hk
  subst hk
  simp only at hh
  cases hho : headOk ⟨6, a, e, b, c, g, s, n, t, w, ev, sr, d⟩ with
  | false =>
    have hneg : ¬ (decide (a < 0) = false ∧ decide (a ≥ 64) = false ∧ decide (e < 0) = false ∧ decide (e > 1099511627776) = false) := by
      rintro ⟨q1, q2, q3, q4⟩
      have q1 := of_decide_eq_false q1
      have q2 := of_decide_eq_false q2
      have q3 := of_decide_eq_false q3
      have q4 := of_decide_eq_false q4
      rw [hh.2 ⟨⟨by omega, by omega⟩, by omega, by omega⟩] at hho
      cases hho
    rw [h0 hho]
    refine sat_of_vc (T := tiOf Tryz.prog) (E := E0) Tryz.func55 rfl rfl hE0 hm0 rfl ?_
    conv => whnf
    iterate 3
      repeat' (first | exact True.intro | ((first | refine Yb fun _ => ?_ | refine Yc fun _ => ?_ | refine Ya (by kernel_rfl) ?_ | refine Ya (by decide) ?_ | refine Yd (by decide) fun _ => ?_ | refine Ye (by decide) fun _ => ?_ | refine ⟨_, _, f1.at1 0 rfl rfl rfl, ?_⟩ | refine ⟨_, _, eqnP (by kernel_rfl), ?_⟩); conv => whnf) | (refine Ya (fun _ => ?_) (fun _ => ?_) <;> conv => whnf))
      all_goals try (refine Or.inl ?_; conv => whnf)
    all_goals try exact (hneg ⟨‹_›, ‹_›, ‹_›, ‹_›⟩).elim
    all_goals refine ⟨[], ?_⟩
    repeat (any_goals (first | exact True.intro | exact rfl | exact (by kernel_rfl) | refine Ya ?_ ?_))
    all_goals conv => whnf
  | true =>
  obtain ⟨⟨q1, q2⟩, q3, q4⟩ := hh.1 hho
  have d1 : decide (a < 0) = false := decide_eq_false (by omega)
  have d2 : decide (a ≥ 64) = false := decide_eq_false (by omega)
  have d3 : decide (e < 0) = false := decide_eq_false (by omega)
  have d4 : decide (e > 1099511627776) = false := decide_eq_false (by omega)
  refine sat_of_vc (T := tiOf Tryz.prog) (E := E0) Tryz.func55 rfl rfl hE0 hm0 rfl ?_
  conv => whnf
  iterate 3
    repeat' (first | exact True.intro | ((first | refine Yb fun _ => ?_ | refine Yc fun _ => ?_ | refine Ya (by kernel_rfl) ?_ | refine Ya (by decide) ?_ | refine Yd (by decide) fun _ => ?_ | refine Ye (by decide) fun _ => ?_ | refine ⟨_, _, f1.at1 0 rfl rfl rfl, ?_⟩ | refine ⟨_, _, eqnP (by kernel_rfl), ?_⟩); conv => whnf) | (refine Ya (fun _ => ?_) (fun _ => ?_) <;> conv => whnf))
    all_goals try (refine Or.inl ?_; conv => whnf)
  all_goals try exact (bnl ‹_› d1).elim
  all_goals try exact (bnl ‹_› d2).elim
  all_goals try exact (bnl ‹_› d3).elim
  all_goals try exact (bnl ‹_› d4).elim
  iterate 3
    repeat' (first | exact True.intro | ((first | refine Yb fun _ => ?_ | refine Yc fun _ => ?_ | refine Ya (by kernel_rfl) ?_ | refine Ya (by decide) ?_ | refine Yd (by decide) fun _ => ?_ | refine Ye (by decide) fun _ => ?_ | refine ⟨_, _, f2.at1 2 rfl rfl rfl, ?_⟩ | refine ⟨_, _, lenP (by kernel_rfl), ?_⟩); conv => whnf) | (refine Ya (fun _ => ?_) (fun _ => ?_) <;> conv => whnf))
    all_goals try (refine Or.inl ?_; conv => whnf)
  refine ⟨Nat, fun i => i ≤ 3 ∧ ((valsK ⟨6, a, e, b, c, g, s, n, t, w, ev, sr, d⟩ 6).take i).all rngB = true, fun i => ([(43, iA i), (42, iA 3), (41, .rel 1 (slP 3)), (5, .rel 3 (slP 3)), (4, .ptr 2 0), (1, .ptr 0 0)], [.cells (frA ⟨6, a, e, b, c, g, s, n, t, w, ev, sr, d⟩), .cells (ptrsK 6), .cells (frN 6 (bI ⟨6, a, e, b, c, g, s, n, t, w, ev, sr, d⟩ 6 i 1) (bI ⟨6, a, e, b, c, g, s, n, t, w, ev, sr, d⟩ 6 i 2) (bI ⟨6, a, e, b, c, g, s, n, t, w, ev, sr, d⟩ 6 i 3) (bI ⟨6, a, e, b, c, g, s, n, t, w, ev, sr, d⟩ 6 i 4) (bI ⟨6, a, e, b, c, g, s, n, t, w, ev, sr, d⟩ 6 i 5) (bI ⟨6, a, e, b, c, g, s, n, t, w, ev, sr, d⟩ 6 i 6) (bI ⟨6, a, e, b, c, g, s, n, t, w, ev, sr, d⟩ 6 i 7) (bI ⟨6, a, e, b, c, g, s, n, t, w, ev, sr, d⟩ 6 i 8) (bI ⟨6, a, e, b, c, g, s, n, t, w, ev, sr, d⟩ 6 i 9)), .cells ((idxK 6).map fun j => .ptr 2 j)]), fun i => 3 - i, ⟨0, ⟨Nat.zero_le _, rfl⟩, ?_⟩, ?_⟩
  · all_goals refine ⟨[], ?_⟩
    repeat (any_goals (first | exact True.intro | exact rfl | exact (by kernel_rfl) | refine Ya ?_ ?_))
    all_goals conv => whnf
  rintro i ⟨hi, hI⟩
  have hi : i ≤ 3 := hi
  obtain rfl | rfl | rfl | rfl : i = 0 ∨ i = 1 ∨ i = 2 ∨ i = 3 := by omega
  · conv => whnf
    cases hr : rngB a with
    | false =>
      have hneg : ¬ (decide (a < 0) = false ∧ decide (a > 4611686018427387903) = false) := by
        rintro ⟨p1, p2⟩
        have p1 := of_decide_eq_false p1
        have p2 := of_decide_eq_false p2
        rw [rngB_iff.2 ⟨by omega, by omega⟩] at hr
        cases hr
      rw [hv a (by simp [valsK, idxK, getN]) hr]
      iterate 4
        repeat' (first | exact True.intro | ((first | refine Yb fun _ => ?_ | refine Yc fun _ => ?_ | refine Ya (by kernel_rfl) ?_ | refine Ya (by decide) ?_ | refine Yd (by decide) fun _ => ?_ | refine Ye (by decide) fun _ => ?_ | refine ⟨_, _, ixP (by kernel_rfl) (by kernel_rfl) (by decide), ?_⟩); conv => whnf) | (refine Ya (fun _ => ?_) (fun _ => ?_) <;> conv => whnf))
        all_goals try (refine Or.inl ?_; conv => whnf)
      all_goals try exact (hneg ⟨‹_›, ‹_›⟩).elim
      all_goals refine ⟨[], ?_⟩
      repeat (any_goals (first | exact True.intro | exact rfl | exact (by kernel_rfl) | refine Ya ?_ ?_))
      all_goals conv => whnf
    | true =>
      obtain ⟨p1, p2⟩ := rngB_iff.1 hr
      have d5 : decide (a < 0) = false := decide_eq_false (by omega)
      have d6 : decide (a > 4611686018427387903) = false := decide_eq_false (by omega)
      iterate 5
        repeat' (first | exact True.intro | ((first | refine Yb fun _ => ?_ | refine Yc fun _ => ?_ | refine Ya (by kernel_rfl) ?_ | refine Ya (by decide) ?_ | refine Yd (by decide) fun _ => ?_ | refine Ye (by decide) fun _ => ?_ | refine ⟨_, _, ixP (by kernel_rfl) (by kernel_rfl) (by decide), ?_⟩); conv => whnf) | (refine Ya (fun _ => ?_) (fun _ => ?_) <;> conv => whnf))
        all_goals try (refine Or.inl ?_; conv => whnf)
      all_goals try exact (bnl ‹_› d5).elim
      all_goals try exact (bnl ‹_› d6).elim
      refine ⟨1, ⟨by decide, by first | (rw [show 1 = 0 + 1 from rfl, List.take_add_one, List.all_append, hI]; simp [valsK, idxK, getN, hr])⟩, by decide, ?_⟩
      all_goals refine ⟨[], ?_⟩
      repeat (any_goals (first | exact True.intro | exact rfl | exact (by kernel_rfl) | refine Ya ?_ ?_))
      all_goals conv => whnf
  · conv => whnf
    cases hr : rngB e with
    | false =>
      have hneg : ¬ (decide (e < 0) = false ∧ decide (e > 4611686018427387903) = false) := by
        rintro ⟨p1, p2⟩
        have p1 := of_decide_eq_false p1
        have p2 := of_decide_eq_false p2
        rw [rngB_iff.2 ⟨by omega, by omega⟩] at hr
        cases hr
      rw [hv e (by simp [valsK, idxK, getN]) hr]
      iterate 4
        repeat' (first | exact True.intro | ((first | refine Yb fun _ => ?_ | refine Yc fun _ => ?_ | refine Ya (by kernel_rfl) ?_ | refine Ya (by decide) ?_ | refine Yd (by decide) fun _ => ?_ | refine Ye (by decide) fun _ => ?_ | refine ⟨_, _, ixP (by kernel_rfl) (by kernel_rfl) (by decide), ?_⟩); conv => whnf) | (refine Ya (fun _ => ?_) (fun _ => ?_) <;> conv => whnf))
        all_goals try (refine Or.inl ?_; conv => whnf)
      all_goals try exact (hneg ⟨‹_›, ‹_›⟩).elim
      all_goals refine ⟨[], ?_⟩
      repeat (any_goals (first | exact True.intro | exact rfl | exact (by kernel_rfl) | refine Ya ?_ ?_))
      all_goals conv => whnf
    | true =>
      obtain ⟨p1, p2⟩ := rngB_iff.1 hr
      have d5 : decide (e < 0) = false := decide_eq_false (by omega)
      have d6 : decide (e > 4611686018427387903) = false := decide_eq_false (by omega)
      iterate 5
        repeat' (first | exact True.intro | ((first | refine Yb fun _ => ?_ | refine Yc fun _ => ?_ | refine Ya (by kernel_rfl) ?_ | refine Ya (by decide) ?_ | refine Yd (by decide) fun _ => ?_ | refine Ye (by decide) fun _ => ?_ | refine ⟨_, _, ixP (by kernel_rfl) (by kernel_rfl) (by decide), ?_⟩); conv => whnf) | (refine Ya (fun _ => ?_) (fun _ => ?_) <;> conv => whnf))
        all_goals try (refine Or.inl ?_; conv => whnf)
      all_goals try exact (bnl ‹_› d5).elim
      all_goals try exact (bnl ‹_› d6).elim
      refine ⟨2, ⟨by decide, by first | (rw [show 2 = 1 + 1 from rfl, List.take_add_one, List.all_append, hI]; simp [valsK, idxK, getN, hr])⟩, by decide, ?_⟩
      all_goals refine ⟨[], ?_⟩
      repeat (any_goals (first | exact True.intro | exact rfl | exact (by kernel_rfl) | refine Ya ?_ ?_))
      all_goals conv => whnf
  · conv => whnf
    cases hr : rngB n with
    | false =>
      have hneg : ¬ (decide (n < 0) = false ∧ decide (n > 4611686018427387903) = false) := by
        rintro ⟨p1, p2⟩
        have p1 := of_decide_eq_false p1
        have p2 := of_decide_eq_false p2
        rw [rngB_iff.2 ⟨by omega, by omega⟩] at hr
        cases hr
      rw [hv n (by simp [valsK, idxK, getN]) hr]
      iterate 4
        repeat' (first | exact True.intro | ((first | refine Yb fun _ => ?_ | refine Yc fun _ => ?_ | refine Ya (by kernel_rfl) ?_ | refine Ya (by decide) ?_ | refine Yd (by decide) fun _ => ?_ | refine Ye (by decide) fun _ => ?_ | refine ⟨_, _, ixP (by kernel_rfl) (by kernel_rfl) (by decide), ?_⟩); conv => whnf) | (refine Ya (fun _ => ?_) (fun _ => ?_) <;> conv => whnf))
        all_goals try (refine Or.inl ?_; conv => whnf)
      all_goals try exact (hneg ⟨‹_›, ‹_›⟩).elim
      all_goals refine ⟨[], ?_⟩
      repeat (any_goals (first | exact True.intro | exact rfl | exact (by kernel_rfl) | refine Ya ?_ ?_))
      all_goals conv => whnf
    | true =>
      obtain ⟨p1, p2⟩ := rngB_iff.1 hr
      have d5 : decide (n < 0) = false := decide_eq_false (by omega)
      have d6 : decide (n > 4611686018427387903) = false := decide_eq_false (by omega)
      iterate 5
        repeat' (first | exact True.intro | ((first | refine Yb fun _ => ?_ | refine Yc fun _ => ?_ | refine Ya (by kernel_rfl) ?_ | refine Ya (by decide) ?_ | refine Yd (by decide) fun _ => ?_ | refine Ye (by decide) fun _ => ?_ | refine ⟨_, _, ixP (by kernel_rfl) (by kernel_rfl) (by decide), ?_⟩); conv => whnf) | (refine Ya (fun _ => ?_) (fun _ => ?_) <;> conv => whnf))
        all_goals try (refine Or.inl ?_; conv => whnf)
      all_goals try exact (bnl ‹_› d5).elim
      all_goals try exact (bnl ‹_› d6).elim
      refine ⟨3, ⟨by decide, by first | (rw [show 3 = 2 + 1 from rfl, List.take_add_one, List.all_append, hI]; simp [valsK, idxK, getN, hr])⟩, by decide, ?_⟩
      all_goals refine ⟨[], ?_⟩
      repeat (any_goals (first | exact True.intro | exact rfl | exact (by kernel_rfl) | refine Ya ?_ ?_))
      all_goals conv => whnf
  have hall : (valsK ⟨6, a, e, b, c, g, s, n, t, w, ev, sr, d⟩ 6).all rngB = true := hI
  conv => whnf
  by_cases hx4 : n ≤ 1099511627776
  · have d7 : decide (n > 1099511627776) = false := decide_eq_false (by omega)
    rw [hs hho hall (decide_eq_true hx4)]
    iterate 9
      repeat' (first | exact True.intro | ((first | refine Yb fun _ => ?_ | refine Yc fun _ => ?_ | refine Ya (by kernel_rfl) ?_ | refine Ya (by decide) ?_ | refine Yd (by decide) fun _ => ?_ | refine Ye (by decide) fun _ => ?_ | refine ⟨_, _, sm.pu rfl rfl, ?_⟩); conv => whnf) | (refine Ya (fun _ => ?_) (fun _ => ?_) <;> conv => whnf))
      all_goals try (refine Or.inl ?_; conv => whnf)
    all_goals try exact (bnl ‹_› d7).elim
    all_goals try (exfalso; simp only [outL] at *; first | omega | contradiction | (simp_all; done) | (simp_all; omega))
    all_goals refine ⟨[], ?_⟩
    repeat (any_goals (first | exact True.intro | exact rfl | exact (by kernel_rfl) | refine Ya ?_ ?_))
    all_goals conv => whnf
  · have d7 : decide (n > 1099511627776) = true := decide_eq_true (by omega)
    rw [hx (decide_eq_false hx4)]
    iterate 9
      repeat' (first | exact True.intro | ((first | refine Yb fun _ => ?_ | refine Yc fun _ => ?_ | refine Ya (by kernel_rfl) ?_ | refine Ya (by decide) ?_ | refine Yd (by decide) fun _ => ?_ | refine Ye (by decide) fun _ => ?_ | refine ⟨_, _, sm.pu rfl rfl, ?_⟩); conv => whnf) | (refine Ya (fun _ => ?_) (fun _ => ?_) <;> conv => whnf))
      all_goals try (refine Or.inl ?_; conv => whnf)
    all_goals try exact (bnl d7 ‹_›).elim
    all_goals try (exfalso; simp only [outL] at *; first | omega | contradiction | (simp_all; done) | (simp_all; omega))
    all_goals refine ⟨[], ?_⟩
    repeat (any_goals (first | exact True.intro | exact rfl | exact (by kernel_rfl) | refine Ya ?_ ?_))
    all_goals conv => whnf
set_option maxHeartbeats 8000000 in
theorem right_7 (f : Fr) (hk : f.k = 7) (hf : FrOk f) : Sat Tryz.prog 55 [.d (frD f)] [] (bA (rightK f 7)) [] := by
  have f1 := fields_f f 7 hk (by decide) (by decide)
  have f2 := fields_n 7 (by decide) (by decide) 0 0 0 0 0 0 0 0 0
  have hb := bareF_ok hf (k := 7) (by decide)
  have hh := headOk_iff (f := f)
  have h0 := rightK_head (f := f) (k := 7)
  have hv := fun x => rightK_val (f := f) (k := 7) (x := x)
  have hs := rightK_same (f := f) (k := 7)
  have hx := rightK_extra (f := f) (k := 7)
  have sm := same_pre f (bareF f 7) hf hb (xs := nilR (bareF f 7)) (by repeat' (first | exact trivial | refine And.intro ?_ ?_ | exact .inl rfl | exact .inr ⟨rfl, _, rfl⟩))
  obtain ⟨kk, a, e, b, c, g, s, n, t, w, ev, sr, d⟩ := f
  have hk : kk = 7 := hk
  subst hk
  simp only at hh
  cases hho : headOk ⟨7, a, e, b, c, g, s, n, t, w, ev, sr, d⟩ with
  | false =>
    have hneg : ¬ (decide (a < 0) = false ∧ decide (a ≥ 64) = false ∧ decide (e < 0) = false ∧ decide (e > 1099511627776) = false) := by
      rintro ⟨q1, q2, q3, q4⟩
      have q1 := of_decide_eq_false q1
      have q2 := of_decide_eq_false q2
      have q3 := of_decide_eq_false q3
      have q4 := of_decide_eq_false q4
      rw [hh.2 ⟨⟨by omega, by omega⟩, by omega, by omega⟩] at hho
      cases hho
    rw [h0 hho]
    refine sat_of_vc (T := tiOf Tryz.prog) (E := E0) Tryz.func55 rfl rfl hE0 hm0 rfl ?_
    conv => whnf
    iterate 3
      repeat' (first | exact True.intro | ((first | refine Yb fun _ => ?_ | refine Yc fun _ => ?_ | refine Ya (by kernel_rfl) ?_ | refine Ya (by decide) ?_ | refine Yd (by decide) fun _ => ?_ | refine Ye (by decide) fun _ => ?_ | refine ⟨_, _, f1.at1 0 rfl rfl rfl, ?_⟩ | refine ⟨_, _, eqnP (by kernel_rfl), ?_⟩); conv => whnf) | (refine Ya (fun _ => ?_) (fun _ => ?_) <;> conv => whnf))
      all_goals try (refine Or.inl ?_; conv => whnf)
    all_goals try exact (hneg ⟨‹_›, ‹_›, ‹_›, ‹_›⟩).elim
    all_goals refine ⟨[], ?_⟩
    repeat (any_goals (first | exact True.intro | exact rfl | exact (by kernel_rfl) | refine Ya ?_ ?_))
    all_goals conv => whnf
  | true =>
  obtain ⟨⟨q1, q2⟩, q3, q4⟩ := hh.1 hho
  have d1 : decide (a < 0) = false := decide_eq_false (by omega)
  have d2 : decide (a ≥ 64) = false := decide_eq_false (by omega)
  have d3 : decide (e < 0) = false := decide_eq_false (by omega)
  have d4 : decide (e > 1099511627776) = false := decide_eq_false (by omega)
  refine sat_of_vc (T := tiOf Tryz.prog) (E := E0) Tryz.func55 rfl rfl hE0 hm0 rfl ?_
  conv => whnf
  iterate 3
    repeat' (first | exact True.intro | ((first | refine Yb fun _ => ?_ | refine Yc fun _ => ?_ | refine Ya (by kernel_rfl) ?_ | refine Ya (by decide) ?_ | refine Yd (by decide) fun _ => ?_ | refine Ye (by decide) fun _ => ?_ | refine ⟨_, _, f1.at1 0 rfl rfl rfl, ?_⟩ | refine ⟨_, _, eqnP (by kernel_rfl), ?_⟩); conv => whnf) | (refine Ya (fun _ => ?_) (fun _ => ?_) <;> conv => whnf))
    all_goals try (refine Or.inl ?_; conv => whnf)
  all_goals try exact (bnl ‹_› d1).elim
  all_goals try exact (bnl ‹_› d2).elim
  all_goals try exact (bnl ‹_› d3).elim
  all_goals try exact (bnl ‹_› d4).elim
  iterate 3
    repeat' (first | exact True.intro | ((first | refine Yb fun _ => ?_ | refine Yc fun _ => ?_ | refine Ya (by kernel_rfl) ?_ | refine Ya (by decide) ?_ | refine Yd (by decide) fun _ => ?_ | refine Ye (by decide) fun _ => ?_ | refine ⟨_, _, f2.at1 2 rfl rfl rfl, ?_⟩ | refine ⟨_, _, lenP (by kernel_rfl), ?_⟩); conv => whnf) | (refine Ya (fun _ => ?_) (fun _ => ?_) <;> conv => whnf))
    all_goals try (refine Or.inl ?_; conv => whnf)
  refine ⟨Nat, fun i => i ≤ 4 ∧ ((valsK ⟨7, a, e, b, c, g, s, n, t, w, ev, sr, d⟩ 7).take i).all rngB = true, fun i => ([(43, iA i), (42, iA 4), (41, .rel 1 (slP 4)), (5, .rel 3 (slP 4)), (4, .ptr 2 0), (1, .ptr 0 0)], [.cells (frA ⟨7, a, e, b, c, g, s, n, t, w, ev, sr, d⟩), .cells (ptrsK 7), .cells (frN 7 (bI ⟨7, a, e, b, c, g, s, n, t, w, ev, sr, d⟩ 7 i 1) (bI ⟨7, a, e, b, c, g, s, n, t, w, ev, sr, d⟩ 7 i 2) (bI ⟨7, a, e, b, c, g, s, n, t, w, ev, sr, d⟩ 7 i 3) (bI ⟨7, a, e, b, c, g, s, n, t, w, ev, sr, d⟩ 7 i 4) (bI ⟨7, a, e, b, c, g, s, n, t, w, ev, sr, d⟩ 7 i 5) (bI ⟨7, a, e, b, c, g, s, n, t, w, ev, sr, d⟩ 7 i 6) (bI ⟨7, a, e, b, c, g, s, n, t, w, ev, sr, d⟩ 7 i 7) (bI ⟨7, a, e, b, c, g, s, n, t, w, ev, sr, d⟩ 7 i 8) (bI ⟨7, a, e, b, c, g, s, n, t, w, ev, sr, d⟩ 7 i 9)), .cells ((idxK 7).map fun j => .ptr 2 j)]), fun i => 4 - i, ⟨0, ⟨Nat.zero_le _, rfl⟩, ?_⟩, ?_⟩
  · all_goals refine ⟨[], ?_⟩
    repeat (any_goals (first | exact True.intro | exact rfl | exact (by kernel_rfl) | refine Ya ?_ ?_))
    all_goals conv => whnf
  rintro i ⟨hi, hI⟩
  have hi : i ≤ 4 := hi
  obtain rfl | rfl | rfl | rfl | rfl : i = 0 ∨ i = 1 ∨ i = 2 ∨ i = 3 ∨ i = 4 := by omega
  · conv => whnf
    cases hr : rngB a with
    | false =>
      have hneg : ¬ (decide (a < 0) = false ∧ decide (a > 4611686018427387903) = false) := by
        rintro ⟨p1, p2⟩
        have p1 := of_decide_eq_false p1
        have p2 := of_decide_eq_false p2
        rw [rngB_iff.2 ⟨by omega, by omega⟩] at hr
        cases hr
      rw [hv a (by simp [valsK, idxK, getN]) hr]
      iterate 4
        repeat' (first | exact True.intro | ((first | refine Yb fun _ => ?_ | refine Yc fun _ => ?_ | refine Ya (by kernel_rfl) ?_ | refine Ya (by decide) ?_ | refine Yd (by decide) fun _ => ?_ | refine Ye (by decide) fun _ => ?_ | refine ⟨_, _, ixP (by kernel_rfl) (by kernel_rfl) (by decide), ?_⟩); conv => whnf) | (refine Ya (fun _ => ?_) (fun _ => ?_) <;> conv => whnf))
        all_goals try (refine Or.inl ?_; conv => whnf)
      all_goals try exact (hneg ⟨‹_›, ‹_›⟩).elim
      all_goals refine ⟨[], ?_⟩
      repeat (any_goals (first | exact True.intro | exact rfl | exact (by kernel_rfl) | refine Ya ?_ ?_))
      all_goals conv => whnf
    | true =>
      obtain ⟨p1, p2⟩ := rngB_iff.1 hr
      have d5 : decide (a < 0) = false := decide_eq_false (by omega)
      have d6 : decide (a > 4611686018427387903) = false := decide_eq_false (by omega)
      iterate 5
        repeat' (first | exact True.intro | ((first | refine Yb fun _ => ?_ | refine Yc fun _ => ?_ | refine Ya (by kernel_rfl) ?_ | refine Ya (by decide) ?_ | refine Yd (by decide) fun _ => ?_ | refine Ye (by decide) fun _ => ?_ | refine ⟨_, _, ixP (by kernel_rfl) (by kernel_rfl) (by decide), ?_⟩); conv => whnf) | (refine Ya (fun _ => ?_) (fun _ => ?_) <;> conv => whnf))
        all_goals try (refine Or.inl ?_; conv => whnf)
      all_goals try exact (bnl ‹_› d5).elim
      all_goals try exact (bnl ‹_› d6).elim
      refine ⟨1, ⟨by decide, by first | (rw [show 1 = 0 + 1 from rfl, List.take_add_one, List.all_append, hI]; simp [valsK, idxK, getN, hr])⟩, by decide, ?_⟩
      all_goals refine ⟨[], ?_⟩
      repeat (any_goals (first | exact True.intro | exact rfl | exact (by kernel_rfl) | refine Ya ?_ ?_))
      all_goals conv => whnf
  · conv => whnf
    cases hr : rngB e with
    | false =>
      have hneg : ¬ (decide (e < 0) = false ∧ decide (e > 4611686018427387903) = false) := by
        rintro ⟨p1, p2⟩
        have p1 := of_decide_eq_false p1
        have p2 := of_decide_eq_false p2
        rw [rngB_iff.2 ⟨by omega, by omega⟩] at hr
        cases hr
      rw [hv e (by simp [valsK, idxK, getN]) hr]
      iterate 4
        repeat' (first | exact True.intro | ((first | refine Yb fun _ => ?_ | refine Yc fun _ => ?_ | refine Ya (by kernel_rfl) ?_ | refine Ya (by decide) ?_ | refine Yd (by decide) fun _ => ?_ | refine Ye (by decide) fun _ => ?_ | refine ⟨_, _, ixP (by kernel_rfl) (by kernel_rfl) (by decide), ?_⟩); conv => whnf) | (refine Ya (fun _ => ?_) (fun _ => ?_) <;> conv => whnf))
        all_goals try (refine Or.inl ?_; conv => whnf)
      all_goals try exact (hneg ⟨‹_›, ‹_›⟩).elim
      all_goals refine ⟨[], ?_⟩
      repeat (any_goals (first | exact True.intro | exact rfl | exact (by kernel_rfl) | refine Ya ?_ ?_))
      all_goals conv => whnf
    | true =>
      obtain ⟨p1, p2⟩ := rngB_iff.1 hr
      have d5 : decide (e < 0) = false := decide_eq_false (by omega)
      have d6 : decide (e > 4611686018427387903) = false := decide_eq_false (by omega)
      iterate 5
        repeat' (first | exact True.intro | ((first | refine Yb fun _ => ?_ | refine Yc fun _ => ?_ | refine Ya (by kernel_rfl) ?_ | refine Ya (by decide) ?_ | refine Yd (by decide) fun _ => ?_ | refine Ye (by decide) fun _ => ?_ | refine ⟨_, _, ixP (by kernel_rfl) (by kernel_rfl) (by decide), ?_⟩); conv => whnf) | (refine Ya (fun _ => ?_) (fun _ => ?_) <;> conv => whnf))
        all_goals try (refine Or.inl ?_; conv => whnf)
      all_goals try exact (bnl ‹_› d5).elim
      all_goals try exact (bnl ‹_› d6).elim
      refine ⟨2, ⟨by decide, by first | (rw [show 2 = 1 + 1 from rfl, List.take_add_one, List.all_append, hI]; simp [valsK, idxK, getN, hr])⟩, by decide, ?_⟩
      all_goals refine ⟨[], ?_⟩
      repeat (any_goals (first | exact True.intro | exact rfl | exact (by kernel_rfl) | refine Ya ?_ ?_))
      all_goals conv => whnf
  · conv => whnf
    cases hr : rngB n with
    | false =>
      have hneg : ¬ (decide (n < 0) = false ∧ decide (n > 4611686018427387903) = false) := by
        rintro ⟨p1, p2⟩
        have p1 := of_decide_eq_false p1
        have p2 := of_decide_eq_false p2
        rw [rngB_iff.2 ⟨by omega, by omega⟩] at hr
        cases hr
      rw [hv n (by simp [valsK, idxK, getN]) hr]
      iterate 4
        repeat' (first | exact True.intro | ((first | refine Yb fun _ => ?_ | refine Yc fun _ => ?_ | refine Ya (by kernel_rfl) ?_ | refine Ya (by decide) ?_ | refine Yd (by decide) fun _ => ?_ | refine Ye (by decide) fun _ => ?_ | refine ⟨_, _, ixP (by kernel_rfl) (by kernel_rfl) (by decide), ?_⟩); conv => whnf) | (refine Ya (fun _ => ?_) (fun _ => ?_) <;> conv => whnf))
        all_goals try (refine Or.inl ?_; conv => whnf)
      all_goals try exact (hneg ⟨‹_›, ‹_›⟩).elim
      all_goals refine ⟨[], ?_⟩
      repeat (any_goals (first | exact True.intro | exact rfl | exact (by kernel_rfl) | refine Ya ?_ ?_))
      all_goals conv => whnf
    | true =>
      obtain ⟨p1, p2⟩ := rngB_iff.1 hr
      have d5 : decide (n < 0) = false := decide_eq_false (by omega)
      have d6 : decide (n > 4611686018427387903) = false := decide_eq_false (by omega)
      iterate 5
        repeat' (first | exact True.intro | ((first | refine Yb fun _ => ?_ | refine Yc fun _ => ?_ | refine Ya (by kernel_rfl) ?_ | refine Ya (by decide) ?_ | refine Yd (by decide) fun _ => ?_ | refine Ye (by decide) fun _ => ?_ | refine ⟨_, _, ixP (by kernel_rfl) (by kernel_rfl) (by decide), ?_⟩); conv => whnf) | (refine Ya (fun _ => ?_) (fun _ => ?_) <;> conv => whnf))
        all_goals try (refine Or.inl ?_; conv => whnf)
      all_goals try exact (bnl ‹_› d5).elim
      all_goals try exact (bnl ‹_› d6).elim
      refine ⟨3, ⟨by decide, by first | (rw [show 3 = 2 + 1 from rfl, List.take_add_one, List.all_append, hI]; simp [valsK, idxK, getN, hr])⟩, by decide, ?_⟩
      all_goals refine ⟨[], ?_⟩
      repeat (any_goals (first | exact True.intro | exact rfl | exact (by kernel_rfl) | refine Ya ?_ ?_))
      all_goals conv => whnf
  · conv => whnf
    cases hr : rngB t with
    | false =>
      have hneg : ¬ (decide (t < 0) = false ∧ decide (t > 4611686018427387903) = false) := by
        rintro ⟨p1, p2⟩
        have p1 := of_decide_eq_false p1
        have p2 := of_decide_eq_false p2
        rw [rngB_iff.2 ⟨by omega, by omega⟩] at hr
        cases hr
      rw [hv t (by simp [valsK, idxK, getN]) hr]
      iterate 4
        repeat' (first | exact True.intro | ((first | refine Yb fun _ => ?_ | refine Yc fun _ => ?_ | refine Ya (by kernel_rfl) ?_ | refine Ya (by decide) ?_ | refine Yd (by decide) fun _ => ?_ | refine Ye (by decide) fun _ => ?_ | refine ⟨_, _, ixP (by kernel_rfl) (by kernel_rfl) (by decide), ?_⟩); conv => whnf) | (refine Ya (fun _ => ?_) (fun _ => ?_) <;> conv => whnf))
        all_goals try (refine Or.inl ?_; conv => whnf)
      all_goals try exact (hneg ⟨‹_›, ‹_›⟩).elim
      all_goals refine ⟨[], ?_⟩
      repeat (any_goals (first | exact True.intro | exact rfl | exact (by kernel_rfl) | refine Ya ?_ ?_))
      all_goals conv => whnf
    | true =>
      obtain ⟨p1, p2⟩ := rngB_iff.1 hr
      have d5 : decide (t < 0) = false := decide_eq_false (by omega)
      have d6 : decide (t > 4611686018427387903) = false := decide_eq_false (by omega)
      iterate 5
        repeat' (first | exact True.intro | ((first | refine Yb fun _ => ?_ | refine Yc fun _ => ?_ | refine Ya (by kernel_rfl) ?_ | refine Ya (by decide) ?_ | refine Yd (by decide) fun _ => ?_ | refine Ye (by decide) fun _ => ?_ | refine ⟨_, _, ixP (by kernel_rfl) (by kernel_rfl) (by decide), ?_⟩); conv => whnf) | (refine Ya (fun _ => ?_) (fun _ => ?_) <;> conv => whnf))
        all_goals try (refine Or.inl ?_; conv => whnf)
      all_goals try exact (bnl ‹_› d5).elim
      all_goals try exact (bnl ‹_› d6).elim
      refine ⟨4, ⟨by decide, by first | (rw [show 4 = 3 + 1 from rfl, List.take_add_one, List.all_append, hI]; simp [valsK, idxK, getN, hr])⟩, by decide, ?_⟩
      all_goals refine ⟨[], ?_⟩
      repeat (any_goals (first | exact True.intro | exact rfl | exact (by kernel_rfl) | refine Ya ?_ ?_))
      all_goals conv => whnf
  have hall : (valsK ⟨7, a, e, b, c, g, s, n, t, w, ev, sr, d⟩ 7).all rngB = true := hI
  conv => whnf
  by_cases hx4 : n ≤ 1099511627776
  · have d7 : decide (n > 1099511627776) = false := decide_eq_false (by omega)
    rw [hs hho hall (decide_eq_true hx4)]
    iterate 9
      repeat' (first | exact True.intro | ((first | refine Yb fun _ => ?_ | refine Yc fun _ => ?_ | refine Ya (by kernel_rfl) ?_ | refine Ya (by decide) ?_ | refine Yd (by decide) fun _ => ?_ | refine Ye (by decide) fun _ => ?_ | refine ⟨_, _, sm.pu rfl rfl, ?_⟩); conv => whnf) | (refine Ya (fun _ => ?_) (fun _ => ?_) <;> conv => whnf))
      all_goals try (refine Or.inl ?_; conv => whnf)
    all_goals try exact (bnl ‹_› d7).elim
    all_goals try (exfalso; simp only [outL] at *; first | omega | contradiction | (simp_all; done) | (simp_all; omega))
    all_goals refine ⟨[], ?_⟩
    repeat (any_goals (first | exact True.intro | exact rfl | exact (by kernel_rfl) | refine Ya ?_ ?_))
    all_goals conv => whnf
  · have d7 : decide (n > 1099511627776) = true := decide_eq_true (by omega)
    rw [hx (decide_eq_false hx4)]
    iterate 9
      repeat' (first | exact True.intro | ((first | refine Yb fun _ => ?_ | refine Yc fun _ => ?_ | refine Ya (by kernel_rfl) ?_ | refine Ya (by decide) ?_ | refine Yd (by decide) fun _ => ?_ | refine Ye (by decide) fun _ => ?_ | refine ⟨_, _, sm.pu rfl rfl, ?_⟩); conv => whnf) | (refine Ya (fun _ => ?_) (fun _ => ?_) <;> conv => whnf))
      all_goals try (refine Or.inl ?_; conv => whnf)
    all_goals try exact (bnl d7 ‹_›).elim
    all_goals try (exfalso; simp only [outL] at *; first | omega | contradiction | (simp_all; done) | (simp_all; omega))
    all_goals refine ⟨[], ?_⟩
    repeat (any_goals (first | exact True.intro | exact rfl | exact (by kernel_rfl) | refine Ya ?_ ?_))
    all_goals conv => whnf
set_option maxHeartbeats 8000000 in
theorem right_8 (f : Fr) (hk : f.k = 8) (hf : FrOk f) : Sat Tryz.prog 55 [.d (frD f)] [] (bA (rightK f 8)) [] := by
  have f1 := fields_f f 8 hk (by decide) (by decide)
  have f2 := fields_n 8 (by decide) (by decide) 0 0 0 0 0 0 0 0 0
  have hb := bareF_ok hf (k := 8) (by decide)
  have hh := headOk_iff (f := f)
  have h0 := rightK_head (f := f) (k := 8)
  have hv := fun x => rightK_val (f := f) (k := 8) (x := x)
  have hs := rightK_same (f := f) (k := 8)
  have hx := rightK_extra (f := f) (k := 8)
  have sm := same_pre f (bareF f 8) hf hb (xs := [iD (bareF f 8).k, iD (bareF f 8).a, iD (bareF f 8).e, iD (bareF f 8).b, iD (bareF f 8).c, iD (bareF f 8).g, iD (bareF f 8).s, iD (bareF f 8).n, iD (bareF f 8).t, iD (bareF f 8).w, nilV, tD f.sr.1, .sl 2 (f.sr.2.map labR), bsD f.d]) (by repeat' (first | exact trivial | refine And.intro ?_ ?_ | exact .inl rfl | exact .inr ⟨rfl, _, rfl⟩))
  have r1 := sRight_sat f.sr
  have hdl : (f.d.map bR).length = f.d.length := List.length_map _
  obtain ⟨kk, a, e, b, c, g, s, n, t, w, ev, sr, d⟩ := f
  have hk : kk = 8 := hk
  subst hk
  simp only at hh
  cases hho : headOk ⟨8, a, e, b, c, g, s, n, t, w, ev, sr, d⟩ with
  | false =>
    have hneg : ¬ (decide (a < 0) = false ∧ decide (a ≥ 64) = false ∧ decide (e < 0) = false ∧ decide (e > 1099511627776) = false) := by
      rintro ⟨q1, q2, q3, q4⟩
      have q1 := of_decide_eq_false q1
      have q2 := of_decide_eq_false q2
      have q3 := of_decide_eq_false q3
      have q4 := of_decide_eq_false q4
      rw [hh.2 ⟨⟨by omega, by omega⟩, by omega, by omega⟩] at hho
      cases hho
    rw [h0 hho]
    refine sat_of_vc (T := tiOf Tryz.prog) (E := E0) Tryz.func55 rfl rfl hE0 hm0 rfl ?_
    conv => whnf
    iterate 3
      repeat' (first | exact True.intro | ((first | refine Yb fun _ => ?_ | refine Yc fun _ => ?_ | refine Ya (by kernel_rfl) ?_ | refine Ya (by decide) ?_ | refine Yd (by decide) fun _ => ?_ | refine Ye (by decide) fun _ => ?_ | refine ⟨_, _, f1.at1 0 rfl rfl rfl, ?_⟩ | refine ⟨_, _, eqnP (by kernel_rfl), ?_⟩); conv => whnf) | (refine Ya (fun _ => ?_) (fun _ => ?_) <;> conv => whnf))
      all_goals try (refine Or.inl ?_; conv => whnf)
    all_goals try exact (hneg ⟨‹_›, ‹_›, ‹_›, ‹_›⟩).elim
    all_goals refine ⟨[], ?_⟩
    repeat (any_goals (first | exact True.intro | exact rfl | exact (by kernel_rfl) | refine Ya ?_ ?_))
    all_goals conv => whnf
  | true =>
  obtain ⟨⟨q1, q2⟩, q3, q4⟩ := hh.1 hho
  have d1 : decide (a < 0) = false := decide_eq_false (by omega)
  have d2 : decide (a ≥ 64) = false := decide_eq_false (by omega)
  have d3 : decide (e < 0) = false := decide_eq_false (by omega)
  have d4 : decide (e > 1099511627776) = false := decide_eq_false (by omega)
  refine sat_of_vc (T := tiOf Tryz.prog) (E := E0) Tryz.func55 rfl rfl hE0 hm0 rfl ?_
  conv => whnf
  iterate 3
    repeat' (first | exact True.intro | ((first | refine Yb fun _ => ?_ | refine Yc fun _ => ?_ | refine Ya (by kernel_rfl) ?_ | refine Ya (by decide) ?_ | refine Yd (by decide) fun _ => ?_ | refine Ye (by decide) fun _ => ?_ | refine ⟨_, _, f1.at1 0 rfl rfl rfl, ?_⟩ | refine ⟨_, _, eqnP (by kernel_rfl), ?_⟩); conv => whnf) | (refine Ya (fun _ => ?_) (fun _ => ?_) <;> conv => whnf))
    all_goals try (refine Or.inl ?_; conv => whnf)
  all_goals try exact (bnl ‹_› d1).elim
  all_goals try exact (bnl ‹_› d2).elim
  all_goals try exact (bnl ‹_› d3).elim
  all_goals try exact (bnl ‹_› d4).elim
  iterate 3
    repeat' (first | exact True.intro | ((first | refine Yb fun _ => ?_ | refine Yc fun _ => ?_ | refine Ya (by kernel_rfl) ?_ | refine Ya (by decide) ?_ | refine Yd (by decide) fun _ => ?_ | refine Ye (by decide) fun _ => ?_ | refine ⟨_, _, f2.at1 2 rfl rfl rfl, ?_⟩ | refine ⟨_, _, lenP (by kernel_rfl), ?_⟩); conv => whnf) | (refine Ya (fun _ => ?_) (fun _ => ?_) <;> conv => whnf))
    all_goals try (refine Or.inl ?_; conv => whnf)
  refine ⟨Nat, fun i => i ≤ 1 ∧ ((valsK ⟨8, a, e, b, c, g, s, n, t, w, ev, sr, d⟩ 8).take i).all rngB = true, fun i => ([(43, iA i), (42, iA 1), (41, .rel 1 (slP 1)), (5, .rel 3 (slP 1)), (4, .ptr 2 0), (1, .ptr 0 0)], [.cells (frA ⟨8, a, e, b, c, g, s, n, t, w, ev, sr, d⟩), .cells (ptrsK 8), .cells (frN 8 (bI ⟨8, a, e, b, c, g, s, n, t, w, ev, sr, d⟩ 8 i 1) (bI ⟨8, a, e, b, c, g, s, n, t, w, ev, sr, d⟩ 8 i 2) (bI ⟨8, a, e, b, c, g, s, n, t, w, ev, sr, d⟩ 8 i 3) (bI ⟨8, a, e, b, c, g, s, n, t, w, ev, sr, d⟩ 8 i 4) (bI ⟨8, a, e, b, c, g, s, n, t, w, ev, sr, d⟩ 8 i 5) (bI ⟨8, a, e, b, c, g, s, n, t, w, ev, sr, d⟩ 8 i 6) (bI ⟨8, a, e, b, c, g, s, n, t, w, ev, sr, d⟩ 8 i 7) (bI ⟨8, a, e, b, c, g, s, n, t, w, ev, sr, d⟩ 8 i 8) (bI ⟨8, a, e, b, c, g, s, n, t, w, ev, sr, d⟩ 8 i 9)), .cells ((idxK 8).map fun j => .ptr 2 j)]), fun i => 1 - i, ⟨0, ⟨Nat.zero_le _, rfl⟩, ?_⟩, ?_⟩
  · all_goals refine ⟨[], ?_⟩
    repeat (any_goals (first | exact True.intro | exact rfl | exact (by kernel_rfl) | refine Ya ?_ ?_))
    all_goals conv => whnf
  rintro i ⟨hi, hI⟩
  have hi : i ≤ 1 := hi
  obtain rfl | rfl : i = 0 ∨ i = 1 := by omega
  · conv => whnf
    cases hr : rngB w with
    | false =>
      have hneg : ¬ (decide (w < 0) = false ∧ decide (w > 4611686018427387903) = false) := by
        rintro ⟨p1, p2⟩
        have p1 := of_decide_eq_false p1
        have p2 := of_decide_eq_false p2
        rw [rngB_iff.2 ⟨by omega, by omega⟩] at hr
        cases hr
      rw [hv w (by simp [valsK, idxK, getN]) hr]
      iterate 4
        repeat' (first | exact True.intro | ((first | refine Yb fun _ => ?_ | refine Yc fun _ => ?_ | refine Ya (by kernel_rfl) ?_ | refine Ya (by decide) ?_ | refine Yd (by decide) fun _ => ?_ | refine Ye (by decide) fun _ => ?_ | refine ⟨_, _, ixP (by kernel_rfl) (by kernel_rfl) (by decide), ?_⟩); conv => whnf) | (refine Ya (fun _ => ?_) (fun _ => ?_) <;> conv => whnf))
        all_goals try (refine Or.inl ?_; conv => whnf)
      all_goals try exact (hneg ⟨‹_›, ‹_›⟩).elim
      all_goals refine ⟨[], ?_⟩
      repeat (any_goals (first | exact True.intro | exact rfl | exact (by kernel_rfl) | refine Ya ?_ ?_))
      all_goals conv => whnf
    | true =>
      obtain ⟨p1, p2⟩ := rngB_iff.1 hr
      have d5 : decide (w < 0) = false := decide_eq_false (by omega)
      have d6 : decide (w > 4611686018427387903) = false := decide_eq_false (by omega)
      iterate 5
        repeat' (first | exact True.intro | ((first | refine Yb fun _ => ?_ | refine Yc fun _ => ?_ | refine Ya (by kernel_rfl) ?_ | refine Ya (by decide) ?_ | refine Yd (by decide) fun _ => ?_ | refine Ye (by decide) fun _ => ?_ | refine ⟨_, _, ixP (by kernel_rfl) (by kernel_rfl) (by decide), ?_⟩); conv => whnf) | (refine Ya (fun _ => ?_) (fun _ => ?_) <;> conv => whnf))
        all_goals try (refine Or.inl ?_; conv => whnf)
      all_goals try exact (bnl ‹_› d5).elim
      all_goals try exact (bnl ‹_› d6).elim
      refine ⟨1, ⟨by decide, by first | (rw [show 1 = 0 + 1 from rfl, List.take_add_one, List.all_append, hI]; simp [valsK, idxK, getN, hr])⟩, by decide, ?_⟩
      all_goals refine ⟨[], ?_⟩
      repeat (any_goals (first | exact True.intro | exact rfl | exact (by kernel_rfl) | refine Ya ?_ ?_))
      all_goals conv => whnf
  have hall : (valsK ⟨8, a, e, b, c, g, s, n, t, w, ev, sr, d⟩ 8).all rngB = true := hI
  conv => whnf
  cases hr8 : rightB sr with
  | false =>
    rw [hr8] at r1
    rw [hx (by show (rightB sr && _) = false; rw [hr8]; rfl)]
    iterate 9
      repeat' (first | exact True.intro | ((first | refine Yb fun _ => ?_ | refine Yc fun _ => ?_ | refine Ya (by kernel_rfl) ?_ | refine Ya (by decide) ?_ | refine Yd (by decide) fun _ => ?_ | refine Ye (by decide) fun _ => ?_ | refine ⟨_, _, r1.pu rfl rfl, ?_⟩); conv => whnf) | (refine Ya (fun _ => ?_) (fun _ => ?_) <;> conv => whnf))
      all_goals try (refine Or.inl ?_; conv => whnf)
    all_goals try (exfalso; simp only [outL] at *; first | omega | contradiction | (simp_all; done) | (simp_all; omega))
    all_goals refine ⟨[], ?_⟩
    repeat (any_goals (first | exact True.intro | exact rfl | exact (by kernel_rfl) | refine Ya ?_ ?_))
    all_goals conv => whnf
  | true =>
  rw [hr8] at r1
  by_cases hx4 : d.length ≤ 4096
  · have d7 : decide (((d.map bR).length : Int) > 4096) = false := decide_eq_false (by rw [List.length_map]; omega)
    rw [hs hho hall (by show (rightB sr && _) = true; rw [hr8, decide_eq_true hx4]; rfl)]
    iterate 9
      repeat' (first | exact True.intro | ((first | refine Yb fun _ => ?_ | refine Yc fun _ => ?_ | refine Ya (by kernel_rfl) ?_ | refine Ya (by decide) ?_ | refine Yd (by decide) fun _ => ?_ | refine Ye (by decide) fun _ => ?_ | refine ⟨_, _, sm.pu rfl rfl, ?_⟩ | refine ⟨_, _, r1.pu rfl rfl, ?_⟩); conv => whnf) | (refine Ya (fun _ => ?_) (fun _ => ?_) <;> conv => whnf))
      all_goals try (refine Or.inl ?_; conv => whnf)
    all_goals try exact (bnl ‹_› d7).elim
    all_goals try (exfalso; simp only [outL] at *; first | omega | contradiction | (simp_all; done) | (simp_all; omega))
    all_goals refine ⟨[], ?_⟩
    repeat (any_goals (first | exact True.intro | exact rfl | exact (by kernel_rfl) | refine Ya ?_ ?_))
    all_goals conv => whnf
  · have d7 : decide (((d.map bR).length : Int) > 4096) = true := decide_eq_true (by rw [List.length_map]; omega)
    rw [hx (by show (rightB sr && _) = false; rw [hr8, decide_eq_false hx4]; rfl)]
    iterate 9
      repeat' (first | exact True.intro | ((first | refine Yb fun _ => ?_ | refine Yc fun _ => ?_ | refine Ya (by kernel_rfl) ?_ | refine Ya (by decide) ?_ | refine Yd (by decide) fun _ => ?_ | refine Ye (by decide) fun _ => ?_ | refine ⟨_, _, r1.pu rfl rfl, ?_⟩); conv => whnf) | (refine Ya (fun _ => ?_) (fun _ => ?_) <;> conv => whnf))
      all_goals try (refine Or.inl ?_; conv => whnf)
    all_goals try exact (bnl d7 ‹_›).elim
    all_goals try (exfalso; simp only [outL] at *; first | omega | contradiction | (simp_all; done) | (simp_all; omega))
    all_goals refine ⟨[], ?_⟩
    repeat (any_goals (first | exact True.intro | exact rfl | exact (by kernel_rfl) | refine Ya ?_ ?_))
    all_goals conv => whnf
end Go.Proofs.YtfbfpnfgabamfaaGreat
