/- Parts FrP, FrQ of the proof, put together. -/
import Derived.Test.YtfbfpnfgabamfaaGreatM12
namespace Go.Proofs.YtfbfpnfgabamfaaGreat
set_option linter.unusedSimpArgs false
open Go.RowKit
set_option maxRecDepth 100000
set_option linter.unusedVariables false
set_option maxHeartbeats 8000000 in
theorem parse_1 (l : Bt) (hl : l.length ≤ 65536) (s : Rs) (hu : uintS (l, 0) = (1, s)) (hs : s.2 = 0) : Sat Tryz.prog 49 [.d (bsD l)] [] (outP 1 (parseK 1 s)) [] := by
  have n1 := newG_sat l hl
  have k1 := kind_ok (l, 0) hl (by rw [hu]; exact hs) (by rw [hu]; exact (by decide : 1 ≤ 1)) (by rw [hu]; exact (by decide : 1 ≤ 8))
  rw [hu] at k1
  have hsl : s.1.length ≤ 65536 := by have := uintS_len (l, 0); rw [hu] at this; exact Nat.le_trans this hl
  have hil : ∀ i, (itS i s).1.length ≤ 65536 := fun i => Nat.le_trans (itS_len s i) hsl
  have f2 := fields_n 1 (by decide) (by decide) 0 0 0 0 0 0 0 0 0
  have c1 := check_ok
  have hpe := fun i => parseK_err (k := 1) (s := s) i
  have hpg := parseK_go (k := 1) (s := s)
  generalize hP : parseK 1 s = PP at *
  refine satD_of_vc (T := tiOf Tryz.prog) (E := E0) (gc := 83) (ys := [.ptr 0 0, .ptr 1 0]) PnF Tryz.func49 rfl rfl hE0 hm0 rfl rfl rfl rfl rfl rfl rfl rfl rfl ?_
  conv => whnf
  iterate 5
    repeat' (first | exact True.intro | ((first | refine Yb fun _ => ?_ | refine Yc fun _ => ?_ | refine Ya (by kernel_rfl) ?_ | refine Ya (by decide) ?_ | refine Yd (by decide) fun _ => ?_ | refine Ye (by decide) fun _ => ?_ | refine ⟨_, _, n1.nw rfl, ?_⟩ | refine ⟨_, _, k1.at1 2 rfl rfl rfl, ?_⟩ | refine ⟨_, _, f2.at1 0 rfl rfl rfl, ?_⟩ | refine ⟨_, _, lenP (by kernel_rfl), ?_⟩); conv => whnf) | (refine Ya (fun _ => ?_) (fun _ => ?_) <;> conv => whnf))
    all_goals try (refine Or.inl ?_; conv => whnf)
  all_goals try (exfalso; simp only [outL] at *; first | omega | contradiction | (simp_all; done) | (simp_all; omega))
  refine ⟨Nat, fun i => i ≤ 2 ∧ (itS i s).2 = 0, fun i => ([(16, iA i), (15, iA 2), (14, .rel 3 (slP 2)), (4, .ptr 2 0), (3, .ptr 1 0), (2, .ptr 0 0)], [.cells (frN 1 (vb 1 i s 1) (vb 1 i s 2) (vb 1 i s 3) (vb 1 i s 4) (vb 1 i s 5) (vb 1 i s 6) (vb 1 i s 7) (vb 1 i s 8) (vb 1 i s 9)), .cells [iA 0], rsO (itS i s), .cells (ptrsK 1)]), fun i => 2 - i, ⟨0, ⟨Nat.zero_le _, hs⟩, ?_⟩, ?_⟩
  · all_goals refine ⟨[], ?_⟩
    repeat (any_goals (first | exact True.intro | exact rfl | exact (by kernel_rfl) | refine Ya ?_ ?_))
    all_goals conv => whnf
  rintro i ⟨hi, hI⟩
  have hi : i ≤ 2 := hi
  obtain rfl | rfl | rfl : i = 0 ∨ i = 1 ∨ i = 2 := by omega
  · have u1 := uintG_sat (itS 0 s) (hil 0)
    have r1 := errG_sat (itS 1 s)
    conv => whnf
    by_cases he : (itS 1 s).2 = 0
    · rw [he] at r1
      iterate 5
        repeat' (first | exact True.intro | ((first | refine Yb fun _ => ?_ | refine Yc fun _ => ?_ | refine Ya (by kernel_rfl) ?_ | refine Ya (by decide) ?_ | refine Yd (by decide) fun _ => ?_ | refine Ye (by decide) fun _ => ?_ | refine ⟨_, _, ixP (by kernel_rfl) (by kernel_rfl) (by decide), ?_⟩ | refine ⟨_, _, u1.at1 2 rfl rfl rfl, ?_⟩ | refine ⟨_, _, r1.at1 2 rfl rfl rfl, ?_⟩ | refine ⟨_, _, c1.pu rfl rfl, ?_⟩); conv => whnf) | (refine Ya (fun _ => ?_) (fun _ => ?_) <;> conv => whnf))
        all_goals try (refine Or.inl ?_; conv => whnf)
      refine ⟨1, ⟨by decide, he⟩, by decide, ?_⟩
      all_goals refine ⟨[], ?_⟩
      repeat (any_goals (first | exact True.intro | exact rfl | exact (by kernel_rfl) | refine Ya ?_ ?_))
      all_goals conv => whnf
    · have c2 := check_no ((itS 1 s).2 : Int) (by omega)
      obtain rfl := hpe 1 (by decide) he
      rw [outP_err he]
      iterate 5
        repeat' (first | exact True.intro | ((first | refine Or.inr ⟨_, _, c2.pu rfl rfl, ?_⟩ | refine Yb fun _ => ?_ | refine Yc fun _ => ?_ | refine Ya (by kernel_rfl) ?_ | refine Ya (by decide) ?_ | refine Yd (by decide) fun _ => ?_ | refine Ye (by decide) fun _ => ?_ | refine ⟨_, _, ixP (by kernel_rfl) (by kernel_rfl) (by decide), ?_⟩ | refine ⟨_, _, u1.at1 2 rfl rfl rfl, ?_⟩ | refine ⟨_, _, r1.at1 2 rfl rfl rfl, ?_⟩); conv => whnf) | (refine Ya (fun _ => ?_) (fun _ => ?_) <;> conv => whnf))
        all_goals try (refine Or.inl ?_; conv => whnf)
      refine ⟨_, def_pan4 _ _ _ _ _ _ _ _ _ _ _ _ _ _ _ _ _, rfl, ?_⟩
      conv => whnf
      all_goals refine ⟨[], ?_⟩
      repeat (any_goals (first | exact True.intro | exact rfl | exact (by kernel_rfl) | refine Ya ?_ ?_))
      all_goals conv => whnf
  · have u1 := uintG_sat (itS 1 s) (hil 1)
    have r1 := errG_sat (itS 2 s)
    conv => whnf
    by_cases he : (itS 2 s).2 = 0
    · rw [he] at r1
      iterate 5
        repeat' (first | exact True.intro | ((first | refine Yb fun _ => ?_ | refine Yc fun _ => ?_ | refine Ya (by kernel_rfl) ?_ | refine Ya (by decide) ?_ | refine Yd (by decide) fun _ => ?_ | refine Ye (by decide) fun _ => ?_ | refine ⟨_, _, ixP (by kernel_rfl) (by kernel_rfl) (by decide), ?_⟩ | refine ⟨_, _, u1.at1 2 rfl rfl rfl, ?_⟩ | refine ⟨_, _, r1.at1 2 rfl rfl rfl, ?_⟩ | refine ⟨_, _, c1.pu rfl rfl, ?_⟩); conv => whnf) | (refine Ya (fun _ => ?_) (fun _ => ?_) <;> conv => whnf))
        all_goals try (refine Or.inl ?_; conv => whnf)
      refine ⟨2, ⟨by decide, he⟩, by decide, ?_⟩
      all_goals refine ⟨[], ?_⟩
      repeat (any_goals (first | exact True.intro | exact rfl | exact (by kernel_rfl) | refine Ya ?_ ?_))
      all_goals conv => whnf
    · have c2 := check_no ((itS 2 s).2 : Int) (by omega)
      obtain rfl := hpe 2 (by decide) he
      rw [outP_err he]
      iterate 5
        repeat' (first | exact True.intro | ((first | refine Or.inr ⟨_, _, c2.pu rfl rfl, ?_⟩ | refine Yb fun _ => ?_ | refine Yc fun _ => ?_ | refine Ya (by kernel_rfl) ?_ | refine Ya (by decide) ?_ | refine Yd (by decide) fun _ => ?_ | refine Ye (by decide) fun _ => ?_ | refine ⟨_, _, ixP (by kernel_rfl) (by kernel_rfl) (by decide), ?_⟩ | refine ⟨_, _, u1.at1 2 rfl rfl rfl, ?_⟩ | refine ⟨_, _, r1.at1 2 rfl rfl rfl, ?_⟩); conv => whnf) | (refine Ya (fun _ => ?_) (fun _ => ?_) <;> conv => whnf))
        all_goals try (refine Or.inl ?_; conv => whnf)
      refine ⟨_, def_pan4 _ _ _ _ _ _ _ _ _ _ _ _ _ _ _ _ _, rfl, ?_⟩
      conv => whnf
      all_goals refine ⟨[], ?_⟩
      repeat (any_goals (first | exact True.intro | exact rfl | exact (by kernel_rfl) | refine Ya ?_ ?_))
      all_goals conv => whnf
  have hq := hpg hI
  replace hq : PP = finP (frS 1 2 s [] ([], []) []) (itS 2 s) := hq
  have e1 := endG_sat (itS 2 s) (hil 2)
  conv => whnf
  by_cases he : (endS (itS 2 s)).2 = 0
  case neg =>
    have c2 := check_no ((endS (itS 2 s)).2 : Int) (by omega)
    rw [finP_end he] at hq
    subst hq
    rw [outP_err he]
    iterate 5
      repeat' (first | exact True.intro | ((first | refine Or.inr ⟨_, _, c2.pu rfl rfl, ?_⟩ | refine Yb fun _ => ?_ | refine Yc fun _ => ?_ | refine Ya (by kernel_rfl) ?_ | refine Ya (by decide) ?_ | refine Yd (by decide) fun _ => ?_ | refine Ye (by decide) fun _ => ?_ | refine ⟨_, _, e1.at1 2 rfl rfl rfl, ?_⟩); conv => whnf) | (refine Ya (fun _ => ?_) (fun _ => ?_) <;> conv => whnf))
      all_goals try (refine Or.inl ?_; conv => whnf)
    refine ⟨_, def_pan4 _ _ _ _ _ _ _ _ _ _ _ _ _ _ _ _ _, rfl, ?_⟩
    conv => whnf
    all_goals refine ⟨[], ?_⟩
    repeat (any_goals (first | exact True.intro | exact rfl | exact (by kernel_rfl) | refine Ya ?_ ?_))
    all_goals conv => whnf
  rw [he] at e1
  have hfo := frS_ok 1 2 s (by decide) (ev := []) (sr := ([], [])) [] (by simp) (by simp) (by simp)
  have r1 := right_pre (frS 1 2 s [] ([], []) []) hfo (xs := nilR (frS 1 2 s [] ([], []) [])) (by repeat' (first | exact trivial | refine And.intro ?_ ?_ | exact .inl rfl | exact .inr ⟨rfl, _, rfl⟩))
  cases hr : rightF (frS 1 2 s [] ([], []) []) with
  | false =>
    rw [hr] at r1
    rw [finP_no he hr] at hq
    subst hq
    rw [outP_err (by decide)]
    iterate 5
      repeat' (first | exact True.intro | ((first | refine Yb fun _ => ?_ | refine Yc fun _ => ?_ | refine Ya (by kernel_rfl) ?_ | refine Ya (by decide) ?_ | refine Yd (by decide) fun _ => ?_ | refine Ye (by decide) fun _ => ?_ | refine ⟨_, _, e1.at1 2 rfl rfl rfl, ?_⟩ | refine ⟨_, _, c1.pu rfl rfl, ?_⟩ | refine ⟨_, _, r1.pu rfl rfl, ?_⟩ | refine ⟨_, _, mkI 10, ?_⟩); conv => whnf) | (refine Ya (fun _ => ?_) (fun _ => ?_) <;> conv => whnf))
      all_goals try (refine Or.inl ?_; conv => whnf)
    refine ⟨_, def_pan4 _ _ _ _ _ _ _ _ _ _ _ _ _ _ _ _ _, rfl, ?_⟩
    conv => whnf
    all_goals refine ⟨[], ?_⟩
    repeat (any_goals (first | exact True.intro | exact rfl | exact (by kernel_rfl) | refine Ya ?_ ?_))
    all_goals conv => whnf
  | true =>
    rw [hr] at r1
    rw [finP_ok he hr] at hq
    subst hq
    iterate 5
      repeat' (first | exact True.intro | ((first | refine Yb fun _ => ?_ | refine Yc fun _ => ?_ | refine Ya (by kernel_rfl) ?_ | refine Ya (by decide) ?_ | refine Yd (by decide) fun _ => ?_ | refine Ye (by decide) fun _ => ?_ | refine ⟨_, _, e1.at1 2 rfl rfl rfl, ?_⟩ | refine ⟨_, _, c1.pu rfl rfl, ?_⟩ | refine ⟨_, _, r1.pu rfl rfl, ?_⟩); conv => whnf) | (refine Ya (fun _ => ?_) (fun _ => ?_) <;> conv => whnf))
      all_goals try (refine Or.inl ?_; conv => whnf)
    refine ⟨_, def_retN _ _ _ _ _ _ _ _ _ _ _ _, rfl, ?_⟩
    conv => whnf
    all_goals refine ⟨[], ?_⟩
    repeat (any_goals (first | exact True.intro | exact rfl | exact (by kernel_rfl) | refine Ya ?_ ?_))
    all_goals conv => whnf
set_option maxHeartbeats 8000000 in
theorem parse_2 (l : Bt) (hl : l.length ≤ 65536) (s : Rs) (hu : uintS (l, 0) = (2, s)) (hs : s.2 = 0) : Sat Tryz.prog 49 [.d (bsD l)] [] (outP 2 (parseK 2 s)) [] := by
  have n1 := newG_sat l hl
  have k1 := kind_ok (l, 0) hl (by rw [hu]; exact hs) (by rw [hu]; exact (by decide : 1 ≤ 2)) (by rw [hu]; exact (by decide : 2 ≤ 8))
  rw [hu] at k1
  have hsl : s.1.length ≤ 65536 := by have := uintS_len (l, 0); rw [hu] at this; exact Nat.le_trans this hl
  have hil : ∀ i, (itS i s).1.length ≤ 65536 := fun i => Nat.le_trans (itS_len s i) hsl
  have f2 := fields_n 2 (by decide) (by decide) 0 0 0 0 0 0 0 0 0
  have c1 := check_ok
  have hpe := fun i => parseK_err (k := 2) (s := s) i
  have hpg := parseK_go (k := 2) (s := s)
  generalize hP : parseK 2 s = PP at *
  refine satD_of_vc (T := tiOf Tryz.prog) (E := E0) (gc := 83) (ys := [.ptr 0 0, .ptr 1 0]) PnF Tryz.func49 rfl rfl hE0 hm0 rfl rfl rfl rfl rfl rfl rfl rfl rfl ?_
  conv => whnf
  iterate 5
    repeat' (first | exact True.intro | ((first | refine Yb fun _ => ?_ | refine Yc fun _ => ?_ | refine Ya (by kernel_rfl) ?_ | refine Ya (by decide) ?_ | refine Yd (by decide) fun _ => ?_ | refine Ye (by decide) fun _ => ?_ | refine ⟨_, _, n1.nw rfl, ?_⟩ | refine ⟨_, _, k1.at1 2 rfl rfl rfl, ?_⟩ | refine ⟨_, _, f2.at1 0 rfl rfl rfl, ?_⟩ | refine ⟨_, _, lenP (by kernel_rfl), ?_⟩); conv => whnf) | (refine Ya (fun _ => ?_) (fun _ => ?_) <;> conv => whnf))
    all_goals try (refine Or.inl ?_; conv => whnf)
  all_goals try (exfalso; simp only [outL] at *; first | omega | contradiction | (simp_all; done) | (simp_all; omega))
  refine ⟨Nat, fun i => i ≤ 3 ∧ (itS i s).2 = 0, fun i => ([(16, iA i), (15, iA 3), (14, .rel 3 (slP 3)), (4, .ptr 2 0), (3, .ptr 1 0), (2, .ptr 0 0)], [.cells (frN 2 (vb 2 i s 1) (vb 2 i s 2) (vb 2 i s 3) (vb 2 i s 4) (vb 2 i s 5) (vb 2 i s 6) (vb 2 i s 7) (vb 2 i s 8) (vb 2 i s 9)), .cells [iA 0], rsO (itS i s), .cells (ptrsK 2)]), fun i => 3 - i, ⟨0, ⟨Nat.zero_le _, hs⟩, ?_⟩, ?_⟩
  · all_goals refine ⟨[], ?_⟩
    repeat (any_goals (first | exact True.intro | exact rfl | exact (by kernel_rfl) | refine Ya ?_ ?_))
    all_goals conv => whnf
  rintro i ⟨hi, hI⟩
  have hi : i ≤ 3 := hi
  obtain rfl | rfl | rfl | rfl : i = 0 ∨ i = 1 ∨ i = 2 ∨ i = 3 := by omega
  · have u1 := uintG_sat (itS 0 s) (hil 0)
    have r1 := errG_sat (itS 1 s)
    conv => whnf
    by_cases he : (itS 1 s).2 = 0
    · rw [he] at r1
      iterate 5
        repeat' (first | exact True.intro | ((first | refine Yb fun _ => ?_ | refine Yc fun _ => ?_ | refine Ya (by kernel_rfl) ?_ | refine Ya (by decide) ?_ | refine Yd (by decide) fun _ => ?_ | refine Ye (by decide) fun _ => ?_ | refine ⟨_, _, ixP (by kernel_rfl) (by kernel_rfl) (by decide), ?_⟩ | refine ⟨_, _, u1.at1 2 rfl rfl rfl, ?_⟩ | refine ⟨_, _, r1.at1 2 rfl rfl rfl, ?_⟩ | refine ⟨_, _, c1.pu rfl rfl, ?_⟩); conv => whnf) | (refine Ya (fun _ => ?_) (fun _ => ?_) <;> conv => whnf))
        all_goals try (refine Or.inl ?_; conv => whnf)
      refine ⟨1, ⟨by decide, he⟩, by decide, ?_⟩
      all_goals refine ⟨[], ?_⟩
      repeat (any_goals (first | exact True.intro | exact rfl | exact (by kernel_rfl) | refine Ya ?_ ?_))
      all_goals conv => whnf
    · have c2 := check_no ((itS 1 s).2 : Int) (by omega)
      obtain rfl := hpe 1 (by decide) he
      rw [outP_err he]
      iterate 5
        repeat' (first | exact True.intro | ((first | refine Or.inr ⟨_, _, c2.pu rfl rfl, ?_⟩ | refine Yb fun _ => ?_ | refine Yc fun _ => ?_ | refine Ya (by kernel_rfl) ?_ | refine Ya (by decide) ?_ | refine Yd (by decide) fun _ => ?_ | refine Ye (by decide) fun _ => ?_ | refine ⟨_, _, ixP (by kernel_rfl) (by kernel_rfl) (by decide), ?_⟩ | refine ⟨_, _, u1.at1 2 rfl rfl rfl, ?_⟩ | refine ⟨_, _, r1.at1 2 rfl rfl rfl, ?_⟩); conv => whnf) | (refine Ya (fun _ => ?_) (fun _ => ?_) <;> conv => whnf))
        all_goals try (refine Or.inl ?_; conv => whnf)
      refine ⟨_, def_pan4 _ _ _ _ _ _ _ _ _ _ _ _ _ _ _ _ _, rfl, ?_⟩
      conv => whnf
      all_goals refine ⟨[], ?_⟩
      repeat (any_goals (first | exact True.intro | exact rfl | exact (by kernel_rfl) | refine Ya ?_ ?_))
      all_goals conv => whnf
  · have u1 := uintG_sat (itS 1 s) (hil 1)
    have r1 := errG_sat (itS 2 s)
    conv => whnf
    by_cases he : (itS 2 s).2 = 0
    · rw [he] at r1
      iterate 5
        repeat' (first | exact True.intro | ((first | refine Yb fun _ => ?_ | refine Yc fun _ => ?_ | refine Ya (by kernel_rfl) ?_ | refine Ya (by decide) ?_ | refine Yd (by decide) fun _ => ?_ | refine Ye (by decide) fun _ => ?_ | refine ⟨_, _, ixP (by kernel_rfl) (by kernel_rfl) (by decide), ?_⟩ | refine ⟨_, _, u1.at1 2 rfl rfl rfl, ?_⟩ | refine ⟨_, _, r1.at1 2 rfl rfl rfl, ?_⟩ | refine ⟨_, _, c1.pu rfl rfl, ?_⟩); conv => whnf) | (refine Ya (fun _ => ?_) (fun _ => ?_) <;> conv => whnf))
        all_goals try (refine Or.inl ?_; conv => whnf)
      refine ⟨2, ⟨by decide, he⟩, by decide, ?_⟩
      all_goals refine ⟨[], ?_⟩
      repeat (any_goals (first | exact True.intro | exact rfl | exact (by kernel_rfl) | refine Ya ?_ ?_))
      all_goals conv => whnf
    · have c2 := check_no ((itS 2 s).2 : Int) (by omega)
      obtain rfl := hpe 2 (by decide) he
      rw [outP_err he]
      iterate 5
        repeat' (first | exact True.intro | ((first | refine Or.inr ⟨_, _, c2.pu rfl rfl, ?_⟩ | refine Yb fun _ => ?_ | refine Yc fun _ => ?_ | refine Ya (by kernel_rfl) ?_ | refine Ya (by decide) ?_ | refine Yd (by decide) fun _ => ?_ | refine Ye (by decide) fun _ => ?_ | refine ⟨_, _, ixP (by kernel_rfl) (by kernel_rfl) (by decide), ?_⟩ | refine ⟨_, _, u1.at1 2 rfl rfl rfl, ?_⟩ | refine ⟨_, _, r1.at1 2 rfl rfl rfl, ?_⟩); conv => whnf) | (refine Ya (fun _ => ?_) (fun _ => ?_) <;> conv => whnf))
        all_goals try (refine Or.inl ?_; conv => whnf)
      refine ⟨_, def_pan4 _ _ _ _ _ _ _ _ _ _ _ _ _ _ _ _ _, rfl, ?_⟩
      conv => whnf
      all_goals refine ⟨[], ?_⟩
      repeat (any_goals (first | exact True.intro | exact rfl | exact (by kernel_rfl) | refine Ya ?_ ?_))
      all_goals conv => whnf
  · have u1 := uintG_sat (itS 2 s) (hil 2)
    have r1 := errG_sat (itS 3 s)
    conv => whnf
    by_cases he : (itS 3 s).2 = 0
    · rw [he] at r1
      iterate 5
        repeat' (first | exact True.intro | ((first | refine Yb fun _ => ?_ | refine Yc fun _ => ?_ | refine Ya (by kernel_rfl) ?_ | refine Ya (by decide) ?_ | refine Yd (by decide) fun _ => ?_ | refine Ye (by decide) fun _ => ?_ | refine ⟨_, _, ixP (by kernel_rfl) (by kernel_rfl) (by decide), ?_⟩ | refine ⟨_, _, u1.at1 2 rfl rfl rfl, ?_⟩ | refine ⟨_, _, r1.at1 2 rfl rfl rfl, ?_⟩ | refine ⟨_, _, c1.pu rfl rfl, ?_⟩); conv => whnf) | (refine Ya (fun _ => ?_) (fun _ => ?_) <;> conv => whnf))
        all_goals try (refine Or.inl ?_; conv => whnf)
      refine ⟨3, ⟨by decide, he⟩, by decide, ?_⟩
      all_goals refine ⟨[], ?_⟩
      repeat (any_goals (first | exact True.intro | exact rfl | exact (by kernel_rfl) | refine Ya ?_ ?_))
      all_goals conv => whnf
    · have c2 := check_no ((itS 3 s).2 : Int) (by omega)
      obtain rfl := hpe 3 (by decide) he
      rw [outP_err he]
      iterate 5
        repeat' (first | exact True.intro | ((first | refine Or.inr ⟨_, _, c2.pu rfl rfl, ?_⟩ | refine Yb fun _ => ?_ | refine Yc fun _ => ?_ | refine Ya (by kernel_rfl) ?_ | refine Ya (by decide) ?_ | refine Yd (by decide) fun _ => ?_ | refine Ye (by decide) fun _ => ?_ | refine ⟨_, _, ixP (by kernel_rfl) (by kernel_rfl) (by decide), ?_⟩ | refine ⟨_, _, u1.at1 2 rfl rfl rfl, ?_⟩ | refine ⟨_, _, r1.at1 2 rfl rfl rfl, ?_⟩); conv => whnf) | (refine Ya (fun _ => ?_) (fun _ => ?_) <;> conv => whnf))
        all_goals try (refine Or.inl ?_; conv => whnf)
      refine ⟨_, def_pan4 _ _ _ _ _ _ _ _ _ _ _ _ _ _ _ _ _, rfl, ?_⟩
      conv => whnf
      all_goals refine ⟨[], ?_⟩
      repeat (any_goals (first | exact True.intro | exact rfl | exact (by kernel_rfl) | refine Ya ?_ ?_))
      all_goals conv => whnf
  have hq := hpg hI
  replace hq : PP = finP (frS 2 3 s [] ([], []) []) (itS 3 s) := hq
  have e1 := endG_sat (itS 3 s) (hil 3)
  conv => whnf
  by_cases he : (endS (itS 3 s)).2 = 0
  case neg =>
    have c2 := check_no ((endS (itS 3 s)).2 : Int) (by omega)
    rw [finP_end he] at hq
    subst hq
    rw [outP_err he]
    iterate 5
      repeat' (first | exact True.intro | ((first | refine Or.inr ⟨_, _, c2.pu rfl rfl, ?_⟩ | refine Yb fun _ => ?_ | refine Yc fun _ => ?_ | refine Ya (by kernel_rfl) ?_ | refine Ya (by decide) ?_ | refine Yd (by decide) fun _ => ?_ | refine Ye (by decide) fun _ => ?_ | refine ⟨_, _, e1.at1 2 rfl rfl rfl, ?_⟩); conv => whnf) | (refine Ya (fun _ => ?_) (fun _ => ?_) <;> conv => whnf))
      all_goals try (refine Or.inl ?_; conv => whnf)
    refine ⟨_, def_pan4 _ _ _ _ _ _ _ _ _ _ _ _ _ _ _ _ _, rfl, ?_⟩
    conv => whnf
    all_goals refine ⟨[], ?_⟩
    repeat (any_goals (first | exact True.intro | exact rfl | exact (by kernel_rfl) | refine Ya ?_ ?_))
    all_goals conv => whnf
  rw [he] at e1
  have hfo := frS_ok 2 3 s (by decide) (ev := []) (sr := ([], [])) [] (by simp) (by simp) (by simp)
  have r1 := right_pre (frS 2 3 s [] ([], []) []) hfo (xs := nilR (frS 2 3 s [] ([], []) [])) (by repeat' (first | exact trivial | refine And.intro ?_ ?_ | exact .inl rfl | exact .inr ⟨rfl, _, rfl⟩))
  cases hr : rightF (frS 2 3 s [] ([], []) []) with
  | false =>
    rw [hr] at r1
    rw [finP_no he hr] at hq
    subst hq
    rw [outP_err (by decide)]
    iterate 5
      repeat' (first | exact True.intro | ((first | refine Yb fun _ => ?_ | refine Yc fun _ => ?_ | refine Ya (by kernel_rfl) ?_ | refine Ya (by decide) ?_ | refine Yd (by decide) fun _ => ?_ | refine Ye (by decide) fun _ => ?_ | refine ⟨_, _, e1.at1 2 rfl rfl rfl, ?_⟩ | refine ⟨_, _, c1.pu rfl rfl, ?_⟩ | refine ⟨_, _, r1.pu rfl rfl, ?_⟩ | refine ⟨_, _, mkI 10, ?_⟩); conv => whnf) | (refine Ya (fun _ => ?_) (fun _ => ?_) <;> conv => whnf))
      all_goals try (refine Or.inl ?_; conv => whnf)
    refine ⟨_, def_pan4 _ _ _ _ _ _ _ _ _ _ _ _ _ _ _ _ _, rfl, ?_⟩
    conv => whnf
    all_goals refine ⟨[], ?_⟩
    repeat (any_goals (first | exact True.intro | exact rfl | exact (by kernel_rfl) | refine Ya ?_ ?_))
    all_goals conv => whnf
  | true =>
    rw [hr] at r1
    rw [finP_ok he hr] at hq
    subst hq
    iterate 5
      repeat' (first | exact True.intro | ((first | refine Yb fun _ => ?_ | refine Yc fun _ => ?_ | refine Ya (by kernel_rfl) ?_ | refine Ya (by decide) ?_ | refine Yd (by decide) fun _ => ?_ | refine Ye (by decide) fun _ => ?_ | refine ⟨_, _, e1.at1 2 rfl rfl rfl, ?_⟩ | refine ⟨_, _, c1.pu rfl rfl, ?_⟩ | refine ⟨_, _, r1.pu rfl rfl, ?_⟩); conv => whnf) | (refine Ya (fun _ => ?_) (fun _ => ?_) <;> conv => whnf))
      all_goals try (refine Or.inl ?_; conv => whnf)
    refine ⟨_, def_retN _ _ _ _ _ _ _ _ _ _ _ _, rfl, ?_⟩
    conv => whnf
    all_goals refine ⟨[], ?_⟩
    repeat (any_goals (first | exact True.intro | exact rfl | exact (by kernel_rfl) | refine Ya ?_ ?_))
    all_goals conv => whnf
set_option maxHeartbeats 8000000 in
theorem parse_3 (l : Bt) (hl : l.length ≤ 65536) (s : Rs) (hu : uintS (l, 0) = (3, s)) (hs : s.2 = 0) : Sat Tryz.prog 49 [.d (bsD l)] [] (outP 3 (parseK 3 s)) [] := by
  have n1 := newG_sat l hl
  have k1 := kind_ok (l, 0) hl (by rw [hu]; exact hs) (by rw [hu]; exact (by decide : 1 ≤ 3)) (by rw [hu]; exact (by decide : 3 ≤ 8))
  rw [hu] at k1
  have hsl : s.1.length ≤ 65536 := by have := uintS_len (l, 0); rw [hu] at this; exact Nat.le_trans this hl
  have hil : ∀ i, (itS i s).1.length ≤ 65536 := fun i => Nat.le_trans (itS_len s i) hsl
  have f2 := fields_n 3 (by decide) (by decide) 0 0 0 0 0 0 0 0 0
  have c1 := check_ok
  have hpe := fun i => parseK_err (k := 3) (s := s) i
  have hpg := parseK_go (k := 3) (s := s)
  generalize hP : parseK 3 s = PP at *
  refine satD_of_vc (T := tiOf Tryz.prog) (E := E0) (gc := 83) (ys := [.ptr 0 0, .ptr 1 0]) PnF Tryz.func49 rfl rfl hE0 hm0 rfl rfl rfl rfl rfl rfl rfl rfl rfl ?_
  conv => whnf
  iterate 5
    repeat' (first | exact True.intro | ((first | refine Yb fun _ => ?_ | refine Yc fun _ => ?_ | refine Ya (by kernel_rfl) ?_ | refine Ya (by decide) ?_ | refine Yd (by decide) fun _ => ?_ | refine Ye (by decide) fun _ => ?_ | refine ⟨_, _, n1.nw rfl, ?_⟩ | refine ⟨_, _, k1.at1 2 rfl rfl rfl, ?_⟩ | refine ⟨_, _, f2.at1 0 rfl rfl rfl, ?_⟩ | refine ⟨_, _, lenP (by kernel_rfl), ?_⟩); conv => whnf) | (refine Ya (fun _ => ?_) (fun _ => ?_) <;> conv => whnf))
    all_goals try (refine Or.inl ?_; conv => whnf)
  all_goals try (exfalso; simp only [outL] at *; first | omega | contradiction | (simp_all; done) | (simp_all; omega))
  refine ⟨Nat, fun i => i ≤ 3 ∧ (itS i s).2 = 0, fun i => ([(16, iA i), (15, iA 3), (14, .rel 3 (slP 3)), (4, .ptr 2 0), (3, .ptr 1 0), (2, .ptr 0 0)], [.cells (frN 3 (vb 3 i s 1) (vb 3 i s 2) (vb 3 i s 3) (vb 3 i s 4) (vb 3 i s 5) (vb 3 i s 6) (vb 3 i s 7) (vb 3 i s 8) (vb 3 i s 9)), .cells [iA 0], rsO (itS i s), .cells (ptrsK 3)]), fun i => 3 - i, ⟨0, ⟨Nat.zero_le _, hs⟩, ?_⟩, ?_⟩
  · all_goals refine ⟨[], ?_⟩
    repeat (any_goals (first | exact True.intro | exact rfl | exact (by kernel_rfl) | refine Ya ?_ ?_))
    all_goals conv => whnf
  rintro i ⟨hi, hI⟩
  have hi : i ≤ 3 := hi
  obtain rfl | rfl | rfl | rfl : i = 0 ∨ i = 1 ∨ i = 2 ∨ i = 3 := by omega
  · have u1 := uintG_sat (itS 0 s) (hil 0)
    have r1 := errG_sat (itS 1 s)
    conv => whnf
    by_cases he : (itS 1 s).2 = 0
    · rw [he] at r1
      iterate 5
        repeat' (first | exact True.intro | ((first | refine Yb fun _ => ?_ | refine Yc fun _ => ?_ | refine Ya (by kernel_rfl) ?_ | refine Ya (by decide) ?_ | refine Yd (by decide) fun _ => ?_ | refine Ye (by decide) fun _ => ?_ | refine ⟨_, _, ixP (by kernel_rfl) (by kernel_rfl) (by decide), ?_⟩ | refine ⟨_, _, u1.at1 2 rfl rfl rfl, ?_⟩ | refine ⟨_, _, r1.at1 2 rfl rfl rfl, ?_⟩ | refine ⟨_, _, c1.pu rfl rfl, ?_⟩); conv => whnf) | (refine Ya (fun _ => ?_) (fun _ => ?_) <;> conv => whnf))
        all_goals try (refine Or.inl ?_; conv => whnf)
      refine ⟨1, ⟨by decide, he⟩, by decide, ?_⟩
      all_goals refine ⟨[], ?_⟩
      repeat (any_goals (first | exact True.intro | exact rfl | exact (by kernel_rfl) | refine Ya ?_ ?_))
      all_goals conv => whnf
    · have c2 := check_no ((itS 1 s).2 : Int) (by omega)
      obtain rfl := hpe 1 (by decide) he
      rw [outP_err he]
      iterate 5
        repeat' (first | exact True.intro | ((first | refine Or.inr ⟨_, _, c2.pu rfl rfl, ?_⟩ | refine Yb fun _ => ?_ | refine Yc fun _ => ?_ | refine Ya (by kernel_rfl) ?_ | refine Ya (by decide) ?_ | refine Yd (by decide) fun _ => ?_ | refine Ye (by decide) fun _ => ?_ | refine ⟨_, _, ixP (by kernel_rfl) (by kernel_rfl) (by decide), ?_⟩ | refine ⟨_, _, u1.at1 2 rfl rfl rfl, ?_⟩ | refine ⟨_, _, r1.at1 2 rfl rfl rfl, ?_⟩); conv => whnf) | (refine Ya (fun _ => ?_) (fun _ => ?_) <;> conv => whnf))
        all_goals try (refine Or.inl ?_; conv => whnf)
      refine ⟨_, def_pan4 _ _ _ _ _ _ _ _ _ _ _ _ _ _ _ _ _, rfl, ?_⟩
      conv => whnf
      all_goals refine ⟨[], ?_⟩
      repeat (any_goals (first | exact True.intro | exact rfl | exact (by kernel_rfl) | refine Ya ?_ ?_))
      all_goals conv => whnf
  · have u1 := uintG_sat (itS 1 s) (hil 1)
    have r1 := errG_sat (itS 2 s)
    conv => whnf
    by_cases he : (itS 2 s).2 = 0
    · rw [he] at r1
      iterate 5
        repeat' (first | exact True.intro | ((first | refine Yb fun _ => ?_ | refine Yc fun _ => ?_ | refine Ya (by kernel_rfl) ?_ | refine Ya (by decide) ?_ | refine Yd (by decide) fun _ => ?_ | refine Ye (by decide) fun _ => ?_ | refine ⟨_, _, ixP (by kernel_rfl) (by kernel_rfl) (by decide), ?_⟩ | refine ⟨_, _, u1.at1 2 rfl rfl rfl, ?_⟩ | refine ⟨_, _, r1.at1 2 rfl rfl rfl, ?_⟩ | refine ⟨_, _, c1.pu rfl rfl, ?_⟩); conv => whnf) | (refine Ya (fun _ => ?_) (fun _ => ?_) <;> conv => whnf))
        all_goals try (refine Or.inl ?_; conv => whnf)
      refine ⟨2, ⟨by decide, he⟩, by decide, ?_⟩
      all_goals refine ⟨[], ?_⟩
      repeat (any_goals (first | exact True.intro | exact rfl | exact (by kernel_rfl) | refine Ya ?_ ?_))
      all_goals conv => whnf
    · have c2 := check_no ((itS 2 s).2 : Int) (by omega)
      obtain rfl := hpe 2 (by decide) he
      rw [outP_err he]
      iterate 5
        repeat' (first | exact True.intro | ((first | refine Or.inr ⟨_, _, c2.pu rfl rfl, ?_⟩ | refine Yb fun _ => ?_ | refine Yc fun _ => ?_ | refine Ya (by kernel_rfl) ?_ | refine Ya (by decide) ?_ | refine Yd (by decide) fun _ => ?_ | refine Ye (by decide) fun _ => ?_ | refine ⟨_, _, ixP (by kernel_rfl) (by kernel_rfl) (by decide), ?_⟩ | refine ⟨_, _, u1.at1 2 rfl rfl rfl, ?_⟩ | refine ⟨_, _, r1.at1 2 rfl rfl rfl, ?_⟩); conv => whnf) | (refine Ya (fun _ => ?_) (fun _ => ?_) <;> conv => whnf))
        all_goals try (refine Or.inl ?_; conv => whnf)
      refine ⟨_, def_pan4 _ _ _ _ _ _ _ _ _ _ _ _ _ _ _ _ _, rfl, ?_⟩
      conv => whnf
      all_goals refine ⟨[], ?_⟩
      repeat (any_goals (first | exact True.intro | exact rfl | exact (by kernel_rfl) | refine Ya ?_ ?_))
      all_goals conv => whnf
  · have u1 := uintG_sat (itS 2 s) (hil 2)
    have r1 := errG_sat (itS 3 s)
    conv => whnf
    by_cases he : (itS 3 s).2 = 0
    · rw [he] at r1
      iterate 5
        repeat' (first | exact True.intro | ((first | refine Yb fun _ => ?_ | refine Yc fun _ => ?_ | refine Ya (by kernel_rfl) ?_ | refine Ya (by decide) ?_ | refine Yd (by decide) fun _ => ?_ | refine Ye (by decide) fun _ => ?_ | refine ⟨_, _, ixP (by kernel_rfl) (by kernel_rfl) (by decide), ?_⟩ | refine ⟨_, _, u1.at1 2 rfl rfl rfl, ?_⟩ | refine ⟨_, _, r1.at1 2 rfl rfl rfl, ?_⟩ | refine ⟨_, _, c1.pu rfl rfl, ?_⟩); conv => whnf) | (refine Ya (fun _ => ?_) (fun _ => ?_) <;> conv => whnf))
        all_goals try (refine Or.inl ?_; conv => whnf)
      refine ⟨3, ⟨by decide, he⟩, by decide, ?_⟩
      all_goals refine ⟨[], ?_⟩
      repeat (any_goals (first | exact True.intro | exact rfl | exact (by kernel_rfl) | refine Ya ?_ ?_))
      all_goals conv => whnf
    · have c2 := check_no ((itS 3 s).2 : Int) (by omega)
      obtain rfl := hpe 3 (by decide) he
      rw [outP_err he]
      iterate 5
        repeat' (first | exact True.intro | ((first | refine Or.inr ⟨_, _, c2.pu rfl rfl, ?_⟩ | refine Yb fun _ => ?_ | refine Yc fun _ => ?_ | refine Ya (by kernel_rfl) ?_ | refine Ya (by decide) ?_ | refine Yd (by decide) fun _ => ?_ | refine Ye (by decide) fun _ => ?_ | refine ⟨_, _, ixP (by kernel_rfl) (by kernel_rfl) (by decide), ?_⟩ | refine ⟨_, _, u1.at1 2 rfl rfl rfl, ?_⟩ | refine ⟨_, _, r1.at1 2 rfl rfl rfl, ?_⟩); conv => whnf) | (refine Ya (fun _ => ?_) (fun _ => ?_) <;> conv => whnf))
        all_goals try (refine Or.inl ?_; conv => whnf)
      refine ⟨_, def_pan4 _ _ _ _ _ _ _ _ _ _ _ _ _ _ _ _ _, rfl, ?_⟩
      conv => whnf
      all_goals refine ⟨[], ?_⟩
      repeat (any_goals (first | exact True.intro | exact rfl | exact (by kernel_rfl) | refine Ya ?_ ?_))
      all_goals conv => whnf
  have hq := hpg hI
  replace hq : PP = finP (frS 3 3 s [] ([], []) []) (itS 3 s) := hq
  have e1 := endG_sat (itS 3 s) (hil 3)
  conv => whnf
  by_cases he : (endS (itS 3 s)).2 = 0
  case neg =>
    have c2 := check_no ((endS (itS 3 s)).2 : Int) (by omega)
    rw [finP_end he] at hq
    subst hq
    rw [outP_err he]
    iterate 5
      repeat' (first | exact True.intro | ((first | refine Or.inr ⟨_, _, c2.pu rfl rfl, ?_⟩ | refine Yb fun _ => ?_ | refine Yc fun _ => ?_ | refine Ya (by kernel_rfl) ?_ | refine Ya (by decide) ?_ | refine Yd (by decide) fun _ => ?_ | refine Ye (by decide) fun _ => ?_ | refine ⟨_, _, e1.at1 2 rfl rfl rfl, ?_⟩); conv => whnf) | (refine Ya (fun _ => ?_) (fun _ => ?_) <;> conv => whnf))
      all_goals try (refine Or.inl ?_; conv => whnf)
    refine ⟨_, def_pan4 _ _ _ _ _ _ _ _ _ _ _ _ _ _ _ _ _, rfl, ?_⟩
    conv => whnf
    all_goals refine ⟨[], ?_⟩
    repeat (any_goals (first | exact True.intro | exact rfl | exact (by kernel_rfl) | refine Ya ?_ ?_))
    all_goals conv => whnf
  rw [he] at e1
  have hfo := frS_ok 3 3 s (by decide) (ev := []) (sr := ([], [])) [] (by simp) (by simp) (by simp)
  have r1 := right_pre (frS 3 3 s [] ([], []) []) hfo (xs := nilR (frS 3 3 s [] ([], []) [])) (by repeat' (first | exact trivial | refine And.intro ?_ ?_ | exact .inl rfl | exact .inr ⟨rfl, _, rfl⟩))
  cases hr : rightF (frS 3 3 s [] ([], []) []) with
  | false =>
    rw [hr] at r1
    rw [finP_no he hr] at hq
    subst hq
    rw [outP_err (by decide)]
    iterate 5
      repeat' (first | exact True.intro | ((first | refine Yb fun _ => ?_ | refine Yc fun _ => ?_ | refine Ya (by kernel_rfl) ?_ | refine Ya (by decide) ?_ | refine Yd (by decide) fun _ => ?_ | refine Ye (by decide) fun _ => ?_ | refine ⟨_, _, e1.at1 2 rfl rfl rfl, ?_⟩ | refine ⟨_, _, c1.pu rfl rfl, ?_⟩ | refine ⟨_, _, r1.pu rfl rfl, ?_⟩ | refine ⟨_, _, mkI 10, ?_⟩); conv => whnf) | (refine Ya (fun _ => ?_) (fun _ => ?_) <;> conv => whnf))
      all_goals try (refine Or.inl ?_; conv => whnf)
    refine ⟨_, def_pan4 _ _ _ _ _ _ _ _ _ _ _ _ _ _ _ _ _, rfl, ?_⟩
    conv => whnf
    all_goals refine ⟨[], ?_⟩
    repeat (any_goals (first | exact True.intro | exact rfl | exact (by kernel_rfl) | refine Ya ?_ ?_))
    all_goals conv => whnf
  | true =>
    rw [hr] at r1
    rw [finP_ok he hr] at hq
    subst hq
    iterate 5
      repeat' (first | exact True.intro | ((first | refine Yb fun _ => ?_ | refine Yc fun _ => ?_ | refine Ya (by kernel_rfl) ?_ | refine Ya (by decide) ?_ | refine Yd (by decide) fun _ => ?_ | refine Ye (by decide) fun _ => ?_ | refine ⟨_, _, e1.at1 2 rfl rfl rfl, ?_⟩ | refine ⟨_, _, c1.pu rfl rfl, ?_⟩ | refine ⟨_, _, r1.pu rfl rfl, ?_⟩); conv => whnf) | (refine Ya (fun _ => ?_) (fun _ => ?_) <;> conv => whnf))
      all_goals try (refine Or.inl ?_; conv => whnf)
    refine ⟨_, def_retN _ _ _ _ _ _ _ _ _ _ _ _, rfl, ?_⟩
    conv => whnf
    all_goals refine ⟨[], ?_⟩
    repeat (any_goals (first | exact True.intro | exact rfl | exact (by kernel_rfl) | refine Ya ?_ ?_))
    all_goals conv => whnf
set_option maxHeartbeats 8000000 in
theorem parse_4 (l : Bt) (hl : l.length ≤ 65536) (s : Rs) (hu : uintS (l, 0) = (4, s)) (hs : s.2 = 0) : Sat Tryz.prog 49 [.d (bsD l)] [] (outP 4 (parseK 4 s)) [] := by
  have n1 := newG_sat l hl
  have k1 := kind_ok (l, 0) hl (by rw [hu]; exact hs) (by rw [hu]; exact (by decide : 1 ≤ 4)) (by rw [hu]; exact (by decide : 4 ≤ 8))
  rw [hu] at k1
  have hsl : s.1.length ≤ 65536 := by have := uintS_len (l, 0); rw [hu] at this; exact Nat.le_trans this hl
  have hil : ∀ i, (itS i s).1.length ≤ 65536 := fun i => Nat.le_trans (itS_len s i) hsl
  have f2 := fields_n 4 (by decide) (by decide) 0 0 0 0 0 0 0 0 0
  have c1 := check_ok
  have hpe := fun i => parseK_err (k := 4) (s := s) i
  have hpg := parseK_go (k := 4) (s := s)
  generalize hP : parseK 4 s = PP at *
  refine satD_of_vc (T := tiOf Tryz.prog) (E := E0) (gc := 83) (ys := [.ptr 0 0, .ptr 1 0]) PnF Tryz.func49 rfl rfl hE0 hm0 rfl rfl rfl rfl rfl rfl rfl rfl rfl ?_
  conv => whnf
  iterate 5
    repeat' (first | exact True.intro | ((first | refine Yb fun _ => ?_ | refine Yc fun _ => ?_ | refine Ya (by kernel_rfl) ?_ | refine Ya (by decide) ?_ | refine Yd (by decide) fun _ => ?_ | refine Ye (by decide) fun _ => ?_ | refine ⟨_, _, n1.nw rfl, ?_⟩ | refine ⟨_, _, k1.at1 2 rfl rfl rfl, ?_⟩ | refine ⟨_, _, f2.at1 0 rfl rfl rfl, ?_⟩ | refine ⟨_, _, lenP (by kernel_rfl), ?_⟩); conv => whnf) | (refine Ya (fun _ => ?_) (fun _ => ?_) <;> conv => whnf))
    all_goals try (refine Or.inl ?_; conv => whnf)
  all_goals try (exfalso; simp only [outL] at *; first | omega | contradiction | (simp_all; done) | (simp_all; omega))
  refine ⟨Nat, fun i => i ≤ 6 ∧ (itS i s).2 = 0, fun i => ([(16, iA i), (15, iA 6), (14, .rel 3 (slP 6)), (4, .ptr 2 0), (3, .ptr 1 0), (2, .ptr 0 0)], [.cells (frN 4 (vb 4 i s 1) (vb 4 i s 2) (vb 4 i s 3) (vb 4 i s 4) (vb 4 i s 5) (vb 4 i s 6) (vb 4 i s 7) (vb 4 i s 8) (vb 4 i s 9)), .cells [iA 0], rsO (itS i s), .cells (ptrsK 4)]), fun i => 6 - i, ⟨0, ⟨Nat.zero_le _, hs⟩, ?_⟩, ?_⟩
  · all_goals refine ⟨[], ?_⟩
    repeat (any_goals (first | exact True.intro | exact rfl | exact (by kernel_rfl) | refine Ya ?_ ?_))
    all_goals conv => whnf
  rintro i ⟨hi, hI⟩
  have hi : i ≤ 6 := hi
  obtain rfl | rfl | rfl | rfl | rfl | rfl | rfl : i = 0 ∨ i = 1 ∨ i = 2 ∨ i = 3 ∨ i = 4 ∨ i = 5 ∨ i = 6 := by omega
  · have u1 := uintG_sat (itS 0 s) (hil 0)
    have r1 := errG_sat (itS 1 s)
    conv => whnf
    by_cases he : (itS 1 s).2 = 0
    · rw [he] at r1
      iterate 5
        repeat' (first | exact True.intro | ((first | refine Yb fun _ => ?_ | refine Yc fun _ => ?_ | refine Ya (by kernel_rfl) ?_ | refine Ya (by decide) ?_ | refine Yd (by decide) fun _ => ?_ | refine Ye (by decide) fun _ => ?_ | refine ⟨_, _, ixP (by kernel_rfl) (by kernel_rfl) (by decide), ?_⟩ | refine ⟨_, _, u1.at1 2 rfl rfl rfl, ?_⟩ | refine ⟨_, _, r1.at1 2 rfl rfl rfl, ?_⟩ | refine ⟨_, _, c1.pu rfl rfl, ?_⟩); conv => whnf) | (refine Ya (fun _ => ?_) (fun _ => ?_) <;> conv => whnf))
        all_goals try (refine Or.inl ?_; conv => whnf)
      refine ⟨1, ⟨by decide, he⟩, by decide, ?_⟩
      all_goals refine ⟨[], ?_⟩
      repeat (any_goals (first | exact True.intro | exact rfl | exact (by kernel_rfl) | refine Ya ?_ ?_))
      all_goals conv => whnf
    · have c2 := check_no ((itS 1 s).2 : Int) (by omega)
      obtain rfl := hpe 1 (by decide) he
      rw [outP_err he]
      iterate 5
        repeat' (first | exact True.intro | ((first | refine Or.inr ⟨_, _, c2.pu rfl rfl, ?_⟩ | refine Yb fun _ => ?_ | refine Yc fun _ => ?_ | refine Ya (by kernel_rfl) ?_ | refine Ya (by decide) ?_ | refine Yd (by decide) fun _ => ?_ | refine Ye (by decide) fun _ => ?_ | refine ⟨_, _, ixP (by kernel_rfl) (by kernel_rfl) (by decide), ?_⟩ | refine ⟨_, _, u1.at1 2 rfl rfl rfl, ?_⟩ | refine ⟨_, _, r1.at1 2 rfl rfl rfl, ?_⟩); conv => whnf) | (refine Ya (fun _ => ?_) (fun _ => ?_) <;> conv => whnf))
        all_goals try (refine Or.inl ?_; conv => whnf)
      refine ⟨_, def_pan4 _ _ _ _ _ _ _ _ _ _ _ _ _ _ _ _ _, rfl, ?_⟩
      conv => whnf
      all_goals refine ⟨[], ?_⟩
      repeat (any_goals (first | exact True.intro | exact rfl | exact (by kernel_rfl) | refine Ya ?_ ?_))
      all_goals conv => whnf
  · have u1 := uintG_sat (itS 1 s) (hil 1)
    have r1 := errG_sat (itS 2 s)
    conv => whnf
    by_cases he : (itS 2 s).2 = 0
    · rw [he] at r1
      iterate 5
        repeat' (first | exact True.intro | ((first | refine Yb fun _ => ?_ | refine Yc fun _ => ?_ | refine Ya (by kernel_rfl) ?_ | refine Ya (by decide) ?_ | refine Yd (by decide) fun _ => ?_ | refine Ye (by decide) fun _ => ?_ | refine ⟨_, _, ixP (by kernel_rfl) (by kernel_rfl) (by decide), ?_⟩ | refine ⟨_, _, u1.at1 2 rfl rfl rfl, ?_⟩ | refine ⟨_, _, r1.at1 2 rfl rfl rfl, ?_⟩ | refine ⟨_, _, c1.pu rfl rfl, ?_⟩); conv => whnf) | (refine Ya (fun _ => ?_) (fun _ => ?_) <;> conv => whnf))
        all_goals try (refine Or.inl ?_; conv => whnf)
      refine ⟨2, ⟨by decide, he⟩, by decide, ?_⟩
      all_goals refine ⟨[], ?_⟩
      repeat (any_goals (first | exact True.intro | exact rfl | exact (by kernel_rfl) | refine Ya ?_ ?_))
      all_goals conv => whnf
    · have c2 := check_no ((itS 2 s).2 : Int) (by omega)
      obtain rfl := hpe 2 (by decide) he
      rw [outP_err he]
      iterate 5
        repeat' (first | exact True.intro | ((first | refine Or.inr ⟨_, _, c2.pu rfl rfl, ?_⟩ | refine Yb fun _ => ?_ | refine Yc fun _ => ?_ | refine Ya (by kernel_rfl) ?_ | refine Ya (by decide) ?_ | refine Yd (by decide) fun _ => ?_ | refine Ye (by decide) fun _ => ?_ | refine ⟨_, _, ixP (by kernel_rfl) (by kernel_rfl) (by decide), ?_⟩ | refine ⟨_, _, u1.at1 2 rfl rfl rfl, ?_⟩ | refine ⟨_, _, r1.at1 2 rfl rfl rfl, ?_⟩); conv => whnf) | (refine Ya (fun _ => ?_) (fun _ => ?_) <;> conv => whnf))
        all_goals try (refine Or.inl ?_; conv => whnf)
      refine ⟨_, def_pan4 _ _ _ _ _ _ _ _ _ _ _ _ _ _ _ _ _, rfl, ?_⟩
      conv => whnf
      all_goals refine ⟨[], ?_⟩
      repeat (any_goals (first | exact True.intro | exact rfl | exact (by kernel_rfl) | refine Ya ?_ ?_))
      all_goals conv => whnf
  · have u1 := uintG_sat (itS 2 s) (hil 2)
    have r1 := errG_sat (itS 3 s)
    conv => whnf
    by_cases he : (itS 3 s).2 = 0
    · rw [he] at r1
      iterate 5
        repeat' (first | exact True.intro | ((first | refine Yb fun _ => ?_ | refine Yc fun _ => ?_ | refine Ya (by kernel_rfl) ?_ | refine Ya (by decide) ?_ | refine Yd (by decide) fun _ => ?_ | refine Ye (by decide) fun _ => ?_ | refine ⟨_, _, ixP (by kernel_rfl) (by kernel_rfl) (by decide), ?_⟩ | refine ⟨_, _, u1.at1 2 rfl rfl rfl, ?_⟩ | refine ⟨_, _, r1.at1 2 rfl rfl rfl, ?_⟩ | refine ⟨_, _, c1.pu rfl rfl, ?_⟩); conv => whnf) | (refine Ya (fun _ => ?_) (fun _ => ?_) <;> conv => whnf))
        all_goals try (refine Or.inl ?_; conv => whnf)
      refine ⟨3, ⟨by decide, he⟩, by decide, ?_⟩
      all_goals refine ⟨[], ?_⟩
      repeat (any_goals (first | exact True.intro | exact rfl | exact (by kernel_rfl) | refine Ya ?_ ?_))
      all_goals conv => whnf
    · have c2 := check_no ((itS 3 s).2 : Int) (by omega)
      obtain rfl := hpe 3 (by decide) he
      rw [outP_err he]
      iterate 5
        repeat' (first | exact True.intro | ((first | refine Or.inr ⟨_, _, c2.pu rfl rfl, ?_⟩ | refine Yb fun _ => ?_ | refine Yc fun _ => ?_ | refine Ya (by kernel_rfl) ?_ | refine Ya (by decide) ?_ | refine Yd (by decide) fun _ => ?_ | refine Ye (by decide) fun _ => ?_ | refine ⟨_, _, ixP (by kernel_rfl) (by kernel_rfl) (by decide), ?_⟩ | refine ⟨_, _, u1.at1 2 rfl rfl rfl, ?_⟩ | refine ⟨_, _, r1.at1 2 rfl rfl rfl, ?_⟩); conv => whnf) | (refine Ya (fun _ => ?_) (fun _ => ?_) <;> conv => whnf))
        all_goals try (refine Or.inl ?_; conv => whnf)
      refine ⟨_, def_pan4 _ _ _ _ _ _ _ _ _ _ _ _ _ _ _ _ _, rfl, ?_⟩
      conv => whnf
      all_goals refine ⟨[], ?_⟩
      repeat (any_goals (first | exact True.intro | exact rfl | exact (by kernel_rfl) | refine Ya ?_ ?_))
      all_goals conv => whnf
  · have u1 := uintG_sat (itS 3 s) (hil 3)
    have r1 := errG_sat (itS 4 s)
    conv => whnf
    by_cases he : (itS 4 s).2 = 0
    · rw [he] at r1
      iterate 5
        repeat' (first | exact True.intro | ((first | refine Yb fun _ => ?_ | refine Yc fun _ => ?_ | refine Ya (by kernel_rfl) ?_ | refine Ya (by decide) ?_ | refine Yd (by decide) fun _ => ?_ | refine Ye (by decide) fun _ => ?_ | refine ⟨_, _, ixP (by kernel_rfl) (by kernel_rfl) (by decide), ?_⟩ | refine ⟨_, _, u1.at1 2 rfl rfl rfl, ?_⟩ | refine ⟨_, _, r1.at1 2 rfl rfl rfl, ?_⟩ | refine ⟨_, _, c1.pu rfl rfl, ?_⟩); conv => whnf) | (refine Ya (fun _ => ?_) (fun _ => ?_) <;> conv => whnf))
        all_goals try (refine Or.inl ?_; conv => whnf)
      refine ⟨4, ⟨by decide, he⟩, by decide, ?_⟩
      all_goals refine ⟨[], ?_⟩
      repeat (any_goals (first | exact True.intro | exact rfl | exact (by kernel_rfl) | refine Ya ?_ ?_))
      all_goals conv => whnf
    · have c2 := check_no ((itS 4 s).2 : Int) (by omega)
      obtain rfl := hpe 4 (by decide) he
      rw [outP_err he]
      iterate 5
        repeat' (first | exact True.intro | ((first | refine Or.inr ⟨_, _, c2.pu rfl rfl, ?_⟩ | refine Yb fun _ => ?_ | refine Yc fun _ => ?_ | refine Ya (by kernel_rfl) ?_ | refine Ya (by decide) ?_ | refine Yd (by decide) fun _ => ?_ | refine Ye (by decide) fun _ => ?_ | refine ⟨_, _, ixP (by kernel_rfl) (by kernel_rfl) (by decide), ?_⟩ | refine ⟨_, _, u1.at1 2 rfl rfl rfl, ?_⟩ | refine ⟨_, _, r1.at1 2 rfl rfl rfl, ?_⟩); conv => whnf) | (refine Ya (fun _ => ?_) (fun _ => ?_) <;> conv => whnf))
        all_goals try (refine Or.inl ?_; conv => whnf)
      refine ⟨_, def_pan4 _ _ _ _ _ _ _ _ _ _ _ _ _ _ _ _ _, rfl, ?_⟩
      conv => whnf
      all_goals refine ⟨[], ?_⟩
      repeat (any_goals (first | exact True.intro | exact rfl | exact (by kernel_rfl) | refine Ya ?_ ?_))
      all_goals conv => whnf
  · have u1 := uintG_sat (itS 4 s) (hil 4)
    have r1 := errG_sat (itS 5 s)
    conv => whnf
    by_cases he : (itS 5 s).2 = 0
    · rw [he] at r1
      iterate 5
        repeat' (first | exact True.intro | ((first | refine Yb fun _ => ?_ | refine Yc fun _ => ?_ | refine Ya (by kernel_rfl) ?_ | refine Ya (by decide) ?_ | refine Yd (by decide) fun _ => ?_ | refine Ye (by decide) fun _ => ?_ | refine ⟨_, _, ixP (by kernel_rfl) (by kernel_rfl) (by decide), ?_⟩ | refine ⟨_, _, u1.at1 2 rfl rfl rfl, ?_⟩ | refine ⟨_, _, r1.at1 2 rfl rfl rfl, ?_⟩ | refine ⟨_, _, c1.pu rfl rfl, ?_⟩); conv => whnf) | (refine Ya (fun _ => ?_) (fun _ => ?_) <;> conv => whnf))
        all_goals try (refine Or.inl ?_; conv => whnf)
      refine ⟨5, ⟨by decide, he⟩, by decide, ?_⟩
      all_goals refine ⟨[], ?_⟩
      repeat (any_goals (first | exact True.intro | exact rfl | exact (by kernel_rfl) | refine Ya ?_ ?_))
      all_goals conv => whnf
    · have c2 := check_no ((itS 5 s).2 : Int) (by omega)
      obtain rfl := hpe 5 (by decide) he
      rw [outP_err he]
      iterate 5
        repeat' (first | exact True.intro | ((first | refine Or.inr ⟨_, _, c2.pu rfl rfl, ?_⟩ | refine Yb fun _ => ?_ | refine Yc fun _ => ?_ | refine Ya (by kernel_rfl) ?_ | refine Ya (by decide) ?_ | refine Yd (by decide) fun _ => ?_ | refine Ye (by decide) fun _ => ?_ | refine ⟨_, _, ixP (by kernel_rfl) (by kernel_rfl) (by decide), ?_⟩ | refine ⟨_, _, u1.at1 2 rfl rfl rfl, ?_⟩ | refine ⟨_, _, r1.at1 2 rfl rfl rfl, ?_⟩); conv => whnf) | (refine Ya (fun _ => ?_) (fun _ => ?_) <;> conv => whnf))
        all_goals try (refine Or.inl ?_; conv => whnf)
      refine ⟨_, def_pan4 _ _ _ _ _ _ _ _ _ _ _ _ _ _ _ _ _, rfl, ?_⟩
      conv => whnf
      all_goals refine ⟨[], ?_⟩
      repeat (any_goals (first | exact True.intro | exact rfl | exact (by kernel_rfl) | refine Ya ?_ ?_))
      all_goals conv => whnf
  · have u1 := uintG_sat (itS 5 s) (hil 5)
    have r1 := errG_sat (itS 6 s)
    conv => whnf
    by_cases he : (itS 6 s).2 = 0
    · rw [he] at r1
      iterate 5
        repeat' (first | exact True.intro | ((first | refine Yb fun _ => ?_ | refine Yc fun _ => ?_ | refine Ya (by kernel_rfl) ?_ | refine Ya (by decide) ?_ | refine Yd (by decide) fun _ => ?_ | refine Ye (by decide) fun _ => ?_ | refine ⟨_, _, ixP (by kernel_rfl) (by kernel_rfl) (by decide), ?_⟩ | refine ⟨_, _, u1.at1 2 rfl rfl rfl, ?_⟩ | refine ⟨_, _, r1.at1 2 rfl rfl rfl, ?_⟩ | refine ⟨_, _, c1.pu rfl rfl, ?_⟩); conv => whnf) | (refine Ya (fun _ => ?_) (fun _ => ?_) <;> conv => whnf))
        all_goals try (refine Or.inl ?_; conv => whnf)
      refine ⟨6, ⟨by decide, he⟩, by decide, ?_⟩
      all_goals refine ⟨[], ?_⟩
      repeat (any_goals (first | exact True.intro | exact rfl | exact (by kernel_rfl) | refine Ya ?_ ?_))
      all_goals conv => whnf
    · have c2 := check_no ((itS 6 s).2 : Int) (by omega)
      obtain rfl := hpe 6 (by decide) he
      rw [outP_err he]
      iterate 5
        repeat' (first | exact True.intro | ((first | refine Or.inr ⟨_, _, c2.pu rfl rfl, ?_⟩ | refine Yb fun _ => ?_ | refine Yc fun _ => ?_ | refine Ya (by kernel_rfl) ?_ | refine Ya (by decide) ?_ | refine Yd (by decide) fun _ => ?_ | refine Ye (by decide) fun _ => ?_ | refine ⟨_, _, ixP (by kernel_rfl) (by kernel_rfl) (by decide), ?_⟩ | refine ⟨_, _, u1.at1 2 rfl rfl rfl, ?_⟩ | refine ⟨_, _, r1.at1 2 rfl rfl rfl, ?_⟩); conv => whnf) | (refine Ya (fun _ => ?_) (fun _ => ?_) <;> conv => whnf))
        all_goals try (refine Or.inl ?_; conv => whnf)
      refine ⟨_, def_pan4 _ _ _ _ _ _ _ _ _ _ _ _ _ _ _ _ _, rfl, ?_⟩
      conv => whnf
      all_goals refine ⟨[], ?_⟩
      repeat (any_goals (first | exact True.intro | exact rfl | exact (by kernel_rfl) | refine Ya ?_ ?_))
      all_goals conv => whnf
  have hq := hpg hI
  replace hq : PP = finP (frS 4 6 s [] ([], []) []) (itS 6 s) := hq
  have e1 := endG_sat (itS 6 s) (hil 6)
  conv => whnf
  by_cases he : (endS (itS 6 s)).2 = 0
  case neg =>
    have c2 := check_no ((endS (itS 6 s)).2 : Int) (by omega)
    rw [finP_end he] at hq
    subst hq
    rw [outP_err he]
    iterate 5
      repeat' (first | exact True.intro | ((first | refine Or.inr ⟨_, _, c2.pu rfl rfl, ?_⟩ | refine Yb fun _ => ?_ | refine Yc fun _ => ?_ | refine Ya (by kernel_rfl) ?_ | refine Ya (by decide) ?_ | refine Yd (by decide) fun _ => ?_ | refine Ye (by decide) fun _ => ?_ | refine ⟨_, _, e1.at1 2 rfl rfl rfl, ?_⟩); conv => whnf) | (refine Ya (fun _ => ?_) (fun _ => ?_) <;> conv => whnf))
      all_goals try (refine Or.inl ?_; conv => whnf)
    refine ⟨_, def_pan4 _ _ _ _ _ _ _ _ _ _ _ _ _ _ _ _ _, rfl, ?_⟩
    conv => whnf
    all_goals refine ⟨[], ?_⟩
    repeat (any_goals (first | exact True.intro | exact rfl | exact (by kernel_rfl) | refine Ya ?_ ?_))
    all_goals conv => whnf
  rw [he] at e1
  have hfo := frS_ok 4 6 s (by decide) (ev := []) (sr := ([], [])) [] (by simp) (by simp) (by simp)
  have r1 := right_pre (frS 4 6 s [] ([], []) []) hfo (xs := nilR (frS 4 6 s [] ([], []) [])) (by repeat' (first | exact trivial | refine And.intro ?_ ?_ | exact .inl rfl | exact .inr ⟨rfl, _, rfl⟩))
  cases hr : rightF (frS 4 6 s [] ([], []) []) with
  | false =>
    rw [hr] at r1
    rw [finP_no he hr] at hq
    subst hq
    rw [outP_err (by decide)]
    iterate 5
      repeat' (first | exact True.intro | ((first | refine Yb fun _ => ?_ | refine Yc fun _ => ?_ | refine Ya (by kernel_rfl) ?_ | refine Ya (by decide) ?_ | refine Yd (by decide) fun _ => ?_ | refine Ye (by decide) fun _ => ?_ | refine ⟨_, _, e1.at1 2 rfl rfl rfl, ?_⟩ | refine ⟨_, _, c1.pu rfl rfl, ?_⟩ | refine ⟨_, _, r1.pu rfl rfl, ?_⟩ | refine ⟨_, _, mkI 10, ?_⟩); conv => whnf) | (refine Ya (fun _ => ?_) (fun _ => ?_) <;> conv => whnf))
      all_goals try (refine Or.inl ?_; conv => whnf)
    refine ⟨_, def_pan4 _ _ _ _ _ _ _ _ _ _ _ _ _ _ _ _ _, rfl, ?_⟩
    conv => whnf
    all_goals refine ⟨[], ?_⟩
    repeat (any_goals (first | exact True.intro | exact rfl | exact (by kernel_rfl) | refine Ya ?_ ?_))
    all_goals conv => whnf
  | true =>
    rw [hr] at r1
    rw [finP_ok he hr] at hq
    subst hq
    iterate 5
      repeat' (first | exact True.intro | ((first | refine Yb fun _ => ?_ | refine Yc fun _ => ?_ | refine Ya (by kernel_rfl) ?_ | refine Ya (by decide) ?_ | refine Yd (by decide) fun _ => ?_ | refine Ye (by decide) fun _ => ?_ | refine ⟨_, _, e1.at1 2 rfl rfl rfl, ?_⟩ | refine ⟨_, _, c1.pu rfl rfl, ?_⟩ | refine ⟨_, _, r1.pu rfl rfl, ?_⟩); conv => whnf) | (refine Ya (fun _ => ?_) (fun _ => ?_) <;> conv => whnf))
      all_goals try (refine Or.inl ?_; conv => whnf)
    refine ⟨_, def_retN _ _ _ _ _ _ _ _ _ _ _ _, rfl, ?_⟩
    conv => whnf
    all_goals refine ⟨[], ?_⟩
    repeat (any_goals (first | exact True.intro | exact rfl | exact (by kernel_rfl) | refine Ya ?_ ?_))
    all_goals conv => whnf
set_option maxHeartbeats 8000000 in
theorem parse_6 (l : Bt) (hl : l.length ≤ 65536) (s : Rs) (hu : uintS (l, 0) = (6, s)) (hs : s.2 = 0) : Sat Tryz.prog 49 [.d (bsD l)] [] (outP 6 (parseK 6 s)) [] := by
  have n1 := newG_sat l hl
  have k1 := kind_ok (l, 0) hl (by rw [hu]; exact hs) (by rw [hu]; exact (by decide : 1 ≤ 6)) (by rw [hu]; exact (by decide : 6 ≤ 8))
  rw [hu] at k1
  have hsl : s.1.length ≤ 65536 := by have := uintS_len (l, 0); rw [hu] at this; exact Nat.le_trans this hl
  have hil : ∀ i, (itS i s).1.length ≤ 65536 := fun i => Nat.le_trans (itS_len s i) hsl
  have f2 := fields_n 6 (by decide) (by decide) 0 0 0 0 0 0 0 0 0
  have c1 := check_ok
  have hpe := fun i => parseK_err (k := 6) (s := s) i
  have hpg := parseK_go (k := 6) (s := s)
  generalize hP : parseK 6 s = PP at *
  refine satD_of_vc (T := tiOf Tryz.prog) (E := E0) (gc := 83) (ys := [.ptr 0 0, .ptr 1 0]) PnF Tryz.func49 rfl rfl hE0 hm0 rfl rfl rfl rfl rfl rfl rfl rfl rfl ?_
  conv => whnf
  iterate 5
    repeat' (first | exact True.intro | ((first | refine Yb fun _ => ?_ | refine Yc fun _ => ?_ | refine Ya (by kernel_rfl) ?_ | refine Ya (by decide) ?_ | refine Yd (by decide) fun _ => ?_ | refine Ye (by decide) fun _ => ?_ | refine ⟨_, _, n1.nw rfl, ?_⟩ | refine ⟨_, _, k1.at1 2 rfl rfl rfl, ?_⟩ | refine ⟨_, _, f2.at1 0 rfl rfl rfl, ?_⟩ | refine ⟨_, _, lenP (by kernel_rfl), ?_⟩); conv => whnf) | (refine Ya (fun _ => ?_) (fun _ => ?_) <;> conv => whnf))
    all_goals try (refine Or.inl ?_; conv => whnf)
  all_goals try (exfalso; simp only [outL] at *; first | omega | contradiction | (simp_all; done) | (simp_all; omega))
  refine ⟨Nat, fun i => i ≤ 3 ∧ (itS i s).2 = 0, fun i => ([(16, iA i), (15, iA 3), (14, .rel 3 (slP 3)), (4, .ptr 2 0), (3, .ptr 1 0), (2, .ptr 0 0)], [.cells (frN 6 (vb 6 i s 1) (vb 6 i s 2) (vb 6 i s 3) (vb 6 i s 4) (vb 6 i s 5) (vb 6 i s 6) (vb 6 i s 7) (vb 6 i s 8) (vb 6 i s 9)), .cells [iA 0], rsO (itS i s), .cells (ptrsK 6)]), fun i => 3 - i, ⟨0, ⟨Nat.zero_le _, hs⟩, ?_⟩, ?_⟩
  · all_goals refine ⟨[], ?_⟩
    repeat (any_goals (first | exact True.intro | exact rfl | exact (by kernel_rfl) | refine Ya ?_ ?_))
    all_goals conv => whnf
  rintro i ⟨hi, hI⟩
  have hi : i ≤ 3 := hi
  obtain rfl | rfl | rfl | rfl : i = 0 ∨ i = 1 ∨ i = 2 ∨ i = 3 := by omega
  · have u1 := uintG_sat (itS 0 s) (hil 0)
    have r1 := errG_sat (itS 1 s)
    conv => whnf
    by_cases he : (itS 1 s).2 = 0
    · rw [he] at r1
      iterate 5
        repeat' (first | exact True.intro | ((first | refine Yb fun _ => ?_ | refine Yc fun _ => ?_ | refine Ya (by kernel_rfl) ?_ | refine Ya (by decide) ?_ | refine Yd (by decide) fun _ => ?_ | refine Ye (by decide) fun _ => ?_ | refine ⟨_, _, ixP (by kernel_rfl) (by kernel_rfl) (by decide), ?_⟩ | refine ⟨_, _, u1.at1 2 rfl rfl rfl, ?_⟩ | refine ⟨_, _, r1.at1 2 rfl rfl rfl, ?_⟩ | refine ⟨_, _, c1.pu rfl rfl, ?_⟩); conv => whnf) | (refine Ya (fun _ => ?_) (fun _ => ?_) <;> conv => whnf))
        all_goals try (refine Or.inl ?_; conv => whnf)
      refine ⟨1, ⟨by decide, he⟩, by decide, ?_⟩
      all_goals refine ⟨[], ?_⟩
      repeat (any_goals (first | exact True.intro | exact rfl | exact (by kernel_rfl) | refine Ya ?_ ?_))
      all_goals conv => whnf
    · have c2 := check_no ((itS 1 s).2 : Int) (by omega)
      obtain rfl := hpe 1 (by decide) he
      rw [outP_err he]
      iterate 5
        repeat' (first | exact True.intro | ((first | refine Or.inr ⟨_, _, c2.pu rfl rfl, ?_⟩ | refine Yb fun _ => ?_ | refine Yc fun _ => ?_ | refine Ya (by kernel_rfl) ?_ | refine Ya (by decide) ?_ | refine Yd (by decide) fun _ => ?_ | refine Ye (by decide) fun _ => ?_ | refine ⟨_, _, ixP (by kernel_rfl) (by kernel_rfl) (by decide), ?_⟩ | refine ⟨_, _, u1.at1 2 rfl rfl rfl, ?_⟩ | refine ⟨_, _, r1.at1 2 rfl rfl rfl, ?_⟩); conv => whnf) | (refine Ya (fun _ => ?_) (fun _ => ?_) <;> conv => whnf))
        all_goals try (refine Or.inl ?_; conv => whnf)
      refine ⟨_, def_pan4 _ _ _ _ _ _ _ _ _ _ _ _ _ _ _ _ _, rfl, ?_⟩
      conv => whnf
      all_goals refine ⟨[], ?_⟩
      repeat (any_goals (first | exact True.intro | exact rfl | exact (by kernel_rfl) | refine Ya ?_ ?_))
      all_goals conv => whnf
  · have u1 := uintG_sat (itS 1 s) (hil 1)
    have r1 := errG_sat (itS 2 s)
    conv => whnf
    by_cases he : (itS 2 s).2 = 0
    · rw [he] at r1
      iterate 5
        repeat' (first | exact True.intro | ((first | refine Yb fun _ => ?_ | refine Yc fun _ => ?_ | refine Ya (by kernel_rfl) ?_ | refine Ya (by decide) ?_ | refine Yd (by decide) fun _ => ?_ | refine Ye (by decide) fun _ => ?_ | refine ⟨_, _, ixP (by kernel_rfl) (by kernel_rfl) (by decide), ?_⟩ | refine ⟨_, _, u1.at1 2 rfl rfl rfl, ?_⟩ | refine ⟨_, _, r1.at1 2 rfl rfl rfl, ?_⟩ | refine ⟨_, _, c1.pu rfl rfl, ?_⟩); conv => whnf) | (refine Ya (fun _ => ?_) (fun _ => ?_) <;> conv => whnf))
        all_goals try (refine Or.inl ?_; conv => whnf)
      refine ⟨2, ⟨by decide, he⟩, by decide, ?_⟩
      all_goals refine ⟨[], ?_⟩
      repeat (any_goals (first | exact True.intro | exact rfl | exact (by kernel_rfl) | refine Ya ?_ ?_))
      all_goals conv => whnf
    · have c2 := check_no ((itS 2 s).2 : Int) (by omega)
      obtain rfl := hpe 2 (by decide) he
      rw [outP_err he]
      iterate 5
        repeat' (first | exact True.intro | ((first | refine Or.inr ⟨_, _, c2.pu rfl rfl, ?_⟩ | refine Yb fun _ => ?_ | refine Yc fun _ => ?_ | refine Ya (by kernel_rfl) ?_ | refine Ya (by decide) ?_ | refine Yd (by decide) fun _ => ?_ | refine Ye (by decide) fun _ => ?_ | refine ⟨_, _, ixP (by kernel_rfl) (by kernel_rfl) (by decide), ?_⟩ | refine ⟨_, _, u1.at1 2 rfl rfl rfl, ?_⟩ | refine ⟨_, _, r1.at1 2 rfl rfl rfl, ?_⟩); conv => whnf) | (refine Ya (fun _ => ?_) (fun _ => ?_) <;> conv => whnf))
        all_goals try (refine Or.inl ?_; conv => whnf)
      refine ⟨_, def_pan4 _ _ _ _ _ _ _ _ _ _ _ _ _ _ _ _ _, rfl, ?_⟩
      conv => whnf
      all_goals refine ⟨[], ?_⟩
      repeat (any_goals (first | exact True.intro | exact rfl | exact (by kernel_rfl) | refine Ya ?_ ?_))
      all_goals conv => whnf
  · have u1 := uintG_sat (itS 2 s) (hil 2)
    have r1 := errG_sat (itS 3 s)
    conv => whnf
    by_cases he : (itS 3 s).2 = 0
    · rw [he] at r1
      iterate 5
        repeat' (first | exact True.intro | ((first | refine Yb fun _ => ?_ | refine Yc fun _ => ?_ | refine Ya (by kernel_rfl) ?_ | refine Ya (by decide) ?_ | refine Yd (by decide) fun _ => ?_ | refine Ye (by decide) fun _ => ?_ | refine ⟨_, _, ixP (by kernel_rfl) (by kernel_rfl) (by decide), ?_⟩ | refine ⟨_, _, u1.at1 2 rfl rfl rfl, ?_⟩ | refine ⟨_, _, r1.at1 2 rfl rfl rfl, ?_⟩ | refine ⟨_, _, c1.pu rfl rfl, ?_⟩); conv => whnf) | (refine Ya (fun _ => ?_) (fun _ => ?_) <;> conv => whnf))
        all_goals try (refine Or.inl ?_; conv => whnf)
      refine ⟨3, ⟨by decide, he⟩, by decide, ?_⟩
      all_goals refine ⟨[], ?_⟩
      repeat (any_goals (first | exact True.intro | exact rfl | exact (by kernel_rfl) | refine Ya ?_ ?_))
      all_goals conv => whnf
    · have c2 := check_no ((itS 3 s).2 : Int) (by omega)
      obtain rfl := hpe 3 (by decide) he
      rw [outP_err he]
      iterate 5
        repeat' (first | exact True.intro | ((first | refine Or.inr ⟨_, _, c2.pu rfl rfl, ?_⟩ | refine Yb fun _ => ?_ | refine Yc fun _ => ?_ | refine Ya (by kernel_rfl) ?_ | refine Ya (by decide) ?_ | refine Yd (by decide) fun _ => ?_ | refine Ye (by decide) fun _ => ?_ | refine ⟨_, _, ixP (by kernel_rfl) (by kernel_rfl) (by decide), ?_⟩ | refine ⟨_, _, u1.at1 2 rfl rfl rfl, ?_⟩ | refine ⟨_, _, r1.at1 2 rfl rfl rfl, ?_⟩); conv => whnf) | (refine Ya (fun _ => ?_) (fun _ => ?_) <;> conv => whnf))
        all_goals try (refine Or.inl ?_; conv => whnf)
      refine ⟨_, def_pan4 _ _ _ _ _ _ _ _ _ _ _ _ _ _ _ _ _, rfl, ?_⟩
      conv => whnf
      all_goals refine ⟨[], ?_⟩
      repeat (any_goals (first | exact True.intro | exact rfl | exact (by kernel_rfl) | refine Ya ?_ ?_))
      all_goals conv => whnf
  have hq := hpg hI
  replace hq : PP = finP (frS 6 3 s [] ([], []) []) (itS 3 s) := hq
  have e1 := endG_sat (itS 3 s) (hil 3)
  conv => whnf
  by_cases he : (endS (itS 3 s)).2 = 0
  case neg =>
    have c2 := check_no ((endS (itS 3 s)).2 : Int) (by omega)
    rw [finP_end he] at hq
    subst hq
    rw [outP_err he]
    iterate 5
      repeat' (first | exact True.intro | ((first | refine Or.inr ⟨_, _, c2.pu rfl rfl, ?_⟩ | refine Yb fun _ => ?_ | refine Yc fun _ => ?_ | refine Ya (by kernel_rfl) ?_ | refine Ya (by decide) ?_ | refine Yd (by decide) fun _ => ?_ | refine Ye (by decide) fun _ => ?_ | refine ⟨_, _, e1.at1 2 rfl rfl rfl, ?_⟩); conv => whnf) | (refine Ya (fun _ => ?_) (fun _ => ?_) <;> conv => whnf))
      all_goals try (refine Or.inl ?_; conv => whnf)
    refine ⟨_, def_pan4 _ _ _ _ _ _ _ _ _ _ _ _ _ _ _ _ _, rfl, ?_⟩
    conv => whnf
    all_goals refine ⟨[], ?_⟩
    repeat (any_goals (first | exact True.intro | exact rfl | exact (by kernel_rfl) | refine Ya ?_ ?_))
    all_goals conv => whnf
  rw [he] at e1
  have hfo := frS_ok 6 3 s (by decide) (ev := []) (sr := ([], [])) [] (by simp) (by simp) (by simp)
  have r1 := right_pre (frS 6 3 s [] ([], []) []) hfo (xs := nilR (frS 6 3 s [] ([], []) [])) (by repeat' (first | exact trivial | refine And.intro ?_ ?_ | exact .inl rfl | exact .inr ⟨rfl, _, rfl⟩))
  cases hr : rightF (frS 6 3 s [] ([], []) []) with
  | false =>
    rw [hr] at r1
    rw [finP_no he hr] at hq
    subst hq
    rw [outP_err (by decide)]
    iterate 5
      repeat' (first | exact True.intro | ((first | refine Yb fun _ => ?_ | refine Yc fun _ => ?_ | refine Ya (by kernel_rfl) ?_ | refine Ya (by decide) ?_ | refine Yd (by decide) fun _ => ?_ | refine Ye (by decide) fun _ => ?_ | refine ⟨_, _, e1.at1 2 rfl rfl rfl, ?_⟩ | refine ⟨_, _, c1.pu rfl rfl, ?_⟩ | refine ⟨_, _, r1.pu rfl rfl, ?_⟩ | refine ⟨_, _, mkI 10, ?_⟩); conv => whnf) | (refine Ya (fun _ => ?_) (fun _ => ?_) <;> conv => whnf))
      all_goals try (refine Or.inl ?_; conv => whnf)
    refine ⟨_, def_pan4 _ _ _ _ _ _ _ _ _ _ _ _ _ _ _ _ _, rfl, ?_⟩
    conv => whnf
    all_goals refine ⟨[], ?_⟩
    repeat (any_goals (first | exact True.intro | exact rfl | exact (by kernel_rfl) | refine Ya ?_ ?_))
    all_goals conv => whnf
  | true =>
    rw [hr] at r1
    rw [finP_ok he hr] at hq
    subst hq
    iterate 5
      repeat' (first | exact True.intro | ((first | refine Yb fun _ => ?_ | refine Yc fun _ => ?_ | refine Ya (by kernel_rfl) ?_ | refine Ya (by decide) ?_ | refine Yd (by decide) fun _ => ?_ | refine Ye (by decide) fun _ => ?_ | refine ⟨_, _, e1.at1 2 rfl rfl rfl, ?_⟩ | refine ⟨_, _, c1.pu rfl rfl, ?_⟩ | refine ⟨_, _, r1.pu rfl rfl, ?_⟩); conv => whnf) | (refine Ya (fun _ => ?_) (fun _ => ?_) <;> conv => whnf))
      all_goals try (refine Or.inl ?_; conv => whnf)
    refine ⟨_, def_retN _ _ _ _ _ _ _ _ _ _ _ _, rfl, ?_⟩
    conv => whnf
    all_goals refine ⟨[], ?_⟩
    repeat (any_goals (first | exact True.intro | exact rfl | exact (by kernel_rfl) | refine Ya ?_ ?_))
    all_goals conv => whnf
set_option maxHeartbeats 8000000 in
theorem parse_7 (l : Bt) (hl : l.length ≤ 65536) (s : Rs) (hu : uintS (l, 0) = (7, s)) (hs : s.2 = 0) : Sat Tryz.prog 49 [.d (bsD l)] [] (outP 7 (parseK 7 s)) [] := by
  have n1 := newG_sat l hl
  have k1 := kind_ok (l, 0) hl (by rw [hu]; exact hs) (by rw [hu]; exact (by decide : 1 ≤ 7)) (by rw [hu]; exact (by decide : 7 ≤ 8))
  rw [hu] at k1
  have hsl : s.1.length ≤ 65536 := by have := uintS_len (l, 0); rw [hu] at this; exact Nat.le_trans this hl
  have hil : ∀ i, (itS i s).1.length ≤ 65536 := fun i => Nat.le_trans (itS_len s i) hsl
  have f2 := fields_n 7 (by decide) (by decide) 0 0 0 0 0 0 0 0 0
  have c1 := check_ok
  have hpe := fun i => parseK_err (k := 7) (s := s) i
  have hpg := parseK_go (k := 7) (s := s)
  generalize hP : parseK 7 s = PP at *
  refine satD_of_vc (T := tiOf Tryz.prog) (E := E0) (gc := 83) (ys := [.ptr 0 0, .ptr 1 0]) PnF Tryz.func49 rfl rfl hE0 hm0 rfl rfl rfl rfl rfl rfl rfl rfl rfl ?_
  conv => whnf
  iterate 5
    repeat' (first | exact True.intro | ((first | refine Yb fun _ => ?_ | refine Yc fun _ => ?_ | refine Ya (by kernel_rfl) ?_ | refine Ya (by decide) ?_ | refine Yd (by decide) fun _ => ?_ | refine Ye (by decide) fun _ => ?_ | refine ⟨_, _, n1.nw rfl, ?_⟩ | refine ⟨_, _, k1.at1 2 rfl rfl rfl, ?_⟩ | refine ⟨_, _, f2.at1 0 rfl rfl rfl, ?_⟩ | refine ⟨_, _, lenP (by kernel_rfl), ?_⟩); conv => whnf) | (refine Ya (fun _ => ?_) (fun _ => ?_) <;> conv => whnf))
    all_goals try (refine Or.inl ?_; conv => whnf)
  all_goals try (exfalso; simp only [outL] at *; first | omega | contradiction | (simp_all; done) | (simp_all; omega))
  refine ⟨Nat, fun i => i ≤ 4 ∧ (itS i s).2 = 0, fun i => ([(16, iA i), (15, iA 4), (14, .rel 3 (slP 4)), (4, .ptr 2 0), (3, .ptr 1 0), (2, .ptr 0 0)], [.cells (frN 7 (vb 7 i s 1) (vb 7 i s 2) (vb 7 i s 3) (vb 7 i s 4) (vb 7 i s 5) (vb 7 i s 6) (vb 7 i s 7) (vb 7 i s 8) (vb 7 i s 9)), .cells [iA 0], rsO (itS i s), .cells (ptrsK 7)]), fun i => 4 - i, ⟨0, ⟨Nat.zero_le _, hs⟩, ?_⟩, ?_⟩
  · all_goals refine ⟨[], ?_⟩
    repeat (any_goals (first | exact True.intro | exact rfl | exact (by kernel_rfl) | refine Ya ?_ ?_))
    all_goals conv => whnf
  rintro i ⟨hi, hI⟩
  have hi : i ≤ 4 := hi
  obtain rfl | rfl | rfl | rfl | rfl : i = 0 ∨ i = 1 ∨ i = 2 ∨ i = 3 ∨ i = 4 := by omega
  · have u1 := uintG_sat (itS 0 s) (hil 0)
    have r1 := errG_sat (itS 1 s)
    conv => whnf
    by_cases he : (itS 1 s).2 = 0
    · rw [he] at r1
      iterate 5
        repeat' (first | exact True.intro | ((first | refine Yb fun _ => ?_ | refine Yc fun _ => ?_ | refine Ya (by kernel_rfl) ?_ | refine Ya (by decide) ?_ | refine Yd (by decide) fun _ => ?_ | refine Ye (by decide) fun _ => ?_ | refine ⟨_, _, ixP (by kernel_rfl) (by kernel_rfl) (by decide), ?_⟩ | refine ⟨_, _, u1.at1 2 rfl rfl rfl, ?_⟩ | refine ⟨_, _, r1.at1 2 rfl rfl rfl, ?_⟩ | refine ⟨_, _, c1.pu rfl rfl, ?_⟩); conv => whnf) | (refine Ya (fun _ => ?_) (fun _ => ?_) <;> conv => whnf))
        all_goals try (refine Or.inl ?_; conv => whnf)
      refine ⟨1, ⟨by decide, he⟩, by decide, ?_⟩
      all_goals refine ⟨[], ?_⟩
      repeat (any_goals (first | exact True.intro | exact rfl | exact (by kernel_rfl) | refine Ya ?_ ?_))
      all_goals conv => whnf
    · have c2 := check_no ((itS 1 s).2 : Int) (by omega)
      obtain rfl := hpe 1 (by decide) he
      rw [outP_err he]
      iterate 5
        repeat' (first | exact True.intro | ((first | refine Or.inr ⟨_, _, c2.pu rfl rfl, ?_⟩ | refine Yb fun _ => ?_ | refine Yc fun _ => ?_ | refine Ya (by kernel_rfl) ?_ | refine Ya (by decide) ?_ | refine Yd (by decide) fun _ => ?_ | refine Ye (by decide) fun _ => ?_ | refine ⟨_, _, ixP (by kernel_rfl) (by kernel_rfl) (by decide), ?_⟩ | refine ⟨_, _, u1.at1 2 rfl rfl rfl, ?_⟩ | refine ⟨_, _, r1.at1 2 rfl rfl rfl, ?_⟩); conv => whnf) | (refine Ya (fun _ => ?_) (fun _ => ?_) <;> conv => whnf))
        all_goals try (refine Or.inl ?_; conv => whnf)
      refine ⟨_, def_pan4 _ _ _ _ _ _ _ _ _ _ _ _ _ _ _ _ _, rfl, ?_⟩
      conv => whnf
      all_goals refine ⟨[], ?_⟩
      repeat (any_goals (first | exact True.intro | exact rfl | exact (by kernel_rfl) | refine Ya ?_ ?_))
      all_goals conv => whnf
  · have u1 := uintG_sat (itS 1 s) (hil 1)
    have r1 := errG_sat (itS 2 s)
    conv => whnf
    by_cases he : (itS 2 s).2 = 0
    · rw [he] at r1
      iterate 5
        repeat' (first | exact True.intro | ((first | refine Yb fun _ => ?_ | refine Yc fun _ => ?_ | refine Ya (by kernel_rfl) ?_ | refine Ya (by decide) ?_ | refine Yd (by decide) fun _ => ?_ | refine Ye (by decide) fun _ => ?_ | refine ⟨_, _, ixP (by kernel_rfl) (by kernel_rfl) (by decide), ?_⟩ | refine ⟨_, _, u1.at1 2 rfl rfl rfl, ?_⟩ | refine ⟨_, _, r1.at1 2 rfl rfl rfl, ?_⟩ | refine ⟨_, _, c1.pu rfl rfl, ?_⟩); conv => whnf) | (refine Ya (fun _ => ?_) (fun _ => ?_) <;> conv => whnf))
        all_goals try (refine Or.inl ?_; conv => whnf)
      refine ⟨2, ⟨by decide, he⟩, by decide, ?_⟩
      all_goals refine ⟨[], ?_⟩
      repeat (any_goals (first | exact True.intro | exact rfl | exact (by kernel_rfl) | refine Ya ?_ ?_))
      all_goals conv => whnf
    · have c2 := check_no ((itS 2 s).2 : Int) (by omega)
      obtain rfl := hpe 2 (by decide) he
      rw [outP_err he]
      iterate 5
        repeat' (first | exact True.intro | ((first | refine Or.inr ⟨_, _, c2.pu rfl rfl, ?_⟩ | refine Yb fun _ => ?_ | refine Yc fun _ => ?_ | refine Ya (by kernel_rfl) ?_ | refine Ya (by decide) ?_ | refine Yd (by decide) fun _ => ?_ | refine Ye (by decide) fun _ => ?_ | refine ⟨_, _, ixP (by kernel_rfl) (by kernel_rfl) (by decide), ?_⟩ | refine ⟨_, _, u1.at1 2 rfl rfl rfl, ?_⟩ | refine ⟨_, _, r1.at1 2 rfl rfl rfl, ?_⟩); conv => whnf) | (refine Ya (fun _ => ?_) (fun _ => ?_) <;> conv => whnf))
        all_goals try (refine Or.inl ?_; conv => whnf)
      refine ⟨_, def_pan4 _ _ _ _ _ _ _ _ _ _ _ _ _ _ _ _ _, rfl, ?_⟩
      conv => whnf
      all_goals refine ⟨[], ?_⟩
      repeat (any_goals (first | exact True.intro | exact rfl | exact (by kernel_rfl) | refine Ya ?_ ?_))
      all_goals conv => whnf
  · have u1 := uintG_sat (itS 2 s) (hil 2)
    have r1 := errG_sat (itS 3 s)
    conv => whnf
    by_cases he : (itS 3 s).2 = 0
    · rw [he] at r1
      iterate 5
        repeat' (first | exact True.intro | ((first | refine Yb fun _ => ?_ | refine Yc fun _ => ?_ | refine Ya (by kernel_rfl) ?_ | refine Ya (by decide) ?_ | refine Yd (by decide) fun _ => ?_ | refine Ye (by decide) fun _ => ?_ | refine ⟨_, _, ixP (by kernel_rfl) (by kernel_rfl) (by decide), ?_⟩ | refine ⟨_, _, u1.at1 2 rfl rfl rfl, ?_⟩ | refine ⟨_, _, r1.at1 2 rfl rfl rfl, ?_⟩ | refine ⟨_, _, c1.pu rfl rfl, ?_⟩); conv => whnf) | (refine Ya (fun _ => ?_) (fun _ => ?_) <;> conv => whnf))
        all_goals try (refine Or.inl ?_; conv => whnf)
      refine ⟨3, ⟨by decide, he⟩, by decide, ?_⟩
      all_goals refine ⟨[], ?_⟩
      repeat (any_goals (first | exact True.intro | exact rfl | exact (by kernel_rfl) | refine Ya ?_ ?_))
      all_goals conv => whnf
    · have c2 := check_no ((itS 3 s).2 : Int) (by omega)
      obtain rfl := hpe 3 (by decide) he
      rw [outP_err he]
      iterate 5
        repeat' (first | exact True.intro | ((first | refine Or.inr ⟨_, _, c2.pu rfl rfl, ?_⟩ | refine Yb fun _ => ?_ | refine Yc fun _ => ?_ | refine Ya (by kernel_rfl) ?_ | refine Ya (by decide) ?_ | refine Yd (by decide) fun _ => ?_ | refine Ye (by decide) fun _ => ?_ | refine ⟨_, _, ixP (by kernel_rfl) (by kernel_rfl) (by decide), ?_⟩ | refine ⟨_, _, u1.at1 2 rfl rfl rfl, ?_⟩ | refine ⟨_, _, r1.at1 2 rfl rfl rfl, ?_⟩); conv => whnf) | (refine Ya (fun _ => ?_) (fun _ => ?_) <;> conv => whnf))
        all_goals try (refine Or.inl ?_; conv => whnf)
      refine ⟨_, def_pan4 _ _ _ _ _ _ _ _ _ _ _ _ _ _ _ _ _, rfl, ?_⟩
      conv => whnf
      all_goals refine ⟨[], ?_⟩
      repeat (any_goals (first | exact True.intro | exact rfl | exact (by kernel_rfl) | refine Ya ?_ ?_))
      all_goals conv => whnf
  · have u1 := uintG_sat (itS 3 s) (hil 3)
    have r1 := errG_sat (itS 4 s)
    conv => whnf
    by_cases he : (itS 4 s).2 = 0
    · rw [he] at r1
      iterate 5
        repeat' (first | exact True.intro | ((first | refine Yb fun _ => ?_ | refine Yc fun _ => ?_ | refine Ya (by kernel_rfl) ?_ | refine Ya (by decide) ?_ | refine Yd (by decide) fun _ => ?_ | refine Ye (by decide) fun _ => ?_ | refine ⟨_, _, ixP (by kernel_rfl) (by kernel_rfl) (by decide), ?_⟩ | refine ⟨_, _, u1.at1 2 rfl rfl rfl, ?_⟩ | refine ⟨_, _, r1.at1 2 rfl rfl rfl, ?_⟩ | refine ⟨_, _, c1.pu rfl rfl, ?_⟩); conv => whnf) | (refine Ya (fun _ => ?_) (fun _ => ?_) <;> conv => whnf))
        all_goals try (refine Or.inl ?_; conv => whnf)
      refine ⟨4, ⟨by decide, he⟩, by decide, ?_⟩
      all_goals refine ⟨[], ?_⟩
      repeat (any_goals (first | exact True.intro | exact rfl | exact (by kernel_rfl) | refine Ya ?_ ?_))
      all_goals conv => whnf
    · have c2 := check_no ((itS 4 s).2 : Int) (by omega)
      obtain rfl := hpe 4 (by decide) he
      rw [outP_err he]
      iterate 5
        repeat' (first | exact True.intro | ((first | refine Or.inr ⟨_, _, c2.pu rfl rfl, ?_⟩ | refine Yb fun _ => ?_ | refine Yc fun _ => ?_ | refine Ya (by kernel_rfl) ?_ | refine Ya (by decide) ?_ | refine Yd (by decide) fun _ => ?_ | refine Ye (by decide) fun _ => ?_ | refine ⟨_, _, ixP (by kernel_rfl) (by kernel_rfl) (by decide), ?_⟩ | refine ⟨_, _, u1.at1 2 rfl rfl rfl, ?_⟩ | refine ⟨_, _, r1.at1 2 rfl rfl rfl, ?_⟩); conv => whnf) | (refine Ya (fun _ => ?_) (fun _ => ?_) <;> conv => whnf))
        all_goals try (refine Or.inl ?_; conv => whnf)
      refine ⟨_, def_pan4 _ _ _ _ _ _ _ _ _ _ _ _ _ _ _ _ _, rfl, ?_⟩
      conv => whnf
      all_goals refine ⟨[], ?_⟩
      repeat (any_goals (first | exact True.intro | exact rfl | exact (by kernel_rfl) | refine Ya ?_ ?_))
      all_goals conv => whnf
  have hq := hpg hI
  replace hq : PP = finP (frS 7 4 s [] ([], []) []) (itS 4 s) := hq
  have e1 := endG_sat (itS 4 s) (hil 4)
  conv => whnf
  by_cases he : (endS (itS 4 s)).2 = 0
  case neg =>
    have c2 := check_no ((endS (itS 4 s)).2 : Int) (by omega)
    rw [finP_end he] at hq
    subst hq
    rw [outP_err he]
    iterate 5
      repeat' (first | exact True.intro | ((first | refine Or.inr ⟨_, _, c2.pu rfl rfl, ?_⟩ | refine Yb fun _ => ?_ | refine Yc fun _ => ?_ | refine Ya (by kernel_rfl) ?_ | refine Ya (by decide) ?_ | refine Yd (by decide) fun _ => ?_ | refine Ye (by decide) fun _ => ?_ | refine ⟨_, _, e1.at1 2 rfl rfl rfl, ?_⟩); conv => whnf) | (refine Ya (fun _ => ?_) (fun _ => ?_) <;> conv => whnf))
      all_goals try (refine Or.inl ?_; conv => whnf)
    refine ⟨_, def_pan4 _ _ _ _ _ _ _ _ _ _ _ _ _ _ _ _ _, rfl, ?_⟩
    conv => whnf
    all_goals refine ⟨[], ?_⟩
    repeat (any_goals (first | exact True.intro | exact rfl | exact (by kernel_rfl) | refine Ya ?_ ?_))
    all_goals conv => whnf
  rw [he] at e1
  have hfo := frS_ok 7 4 s (by decide) (ev := []) (sr := ([], [])) [] (by simp) (by simp) (by simp)
  have r1 := right_pre (frS 7 4 s [] ([], []) []) hfo (xs := nilR (frS 7 4 s [] ([], []) [])) (by repeat' (first | exact trivial | refine And.intro ?_ ?_ | exact .inl rfl | exact .inr ⟨rfl, _, rfl⟩))
  cases hr : rightF (frS 7 4 s [] ([], []) []) with
  | false =>
    rw [hr] at r1
    rw [finP_no he hr] at hq
    subst hq
    rw [outP_err (by decide)]
    iterate 5
      repeat' (first | exact True.intro | ((first | refine Yb fun _ => ?_ | refine Yc fun _ => ?_ | refine Ya (by kernel_rfl) ?_ | refine Ya (by decide) ?_ | refine Yd (by decide) fun _ => ?_ | refine Ye (by decide) fun _ => ?_ | refine ⟨_, _, e1.at1 2 rfl rfl rfl, ?_⟩ | refine ⟨_, _, c1.pu rfl rfl, ?_⟩ | refine ⟨_, _, r1.pu rfl rfl, ?_⟩ | refine ⟨_, _, mkI 10, ?_⟩); conv => whnf) | (refine Ya (fun _ => ?_) (fun _ => ?_) <;> conv => whnf))
      all_goals try (refine Or.inl ?_; conv => whnf)
    refine ⟨_, def_pan4 _ _ _ _ _ _ _ _ _ _ _ _ _ _ _ _ _, rfl, ?_⟩
    conv => whnf
    all_goals refine ⟨[], ?_⟩
    repeat (any_goals (first | exact True.intro | exact rfl | exact (by kernel_rfl) | refine Ya ?_ ?_))
    all_goals conv => whnf
  | true =>
    rw [hr] at r1
    rw [finP_ok he hr] at hq
    subst hq
    iterate 5
      repeat' (first | exact True.intro | ((first | refine Yb fun _ => ?_ | refine Yc fun _ => ?_ | refine Ya (by kernel_rfl) ?_ | refine Ya (by decide) ?_ | refine Yd (by decide) fun _ => ?_ | refine Ye (by decide) fun _ => ?_ | refine ⟨_, _, e1.at1 2 rfl rfl rfl, ?_⟩ | refine ⟨_, _, c1.pu rfl rfl, ?_⟩ | refine ⟨_, _, r1.pu rfl rfl, ?_⟩); conv => whnf) | (refine Ya (fun _ => ?_) (fun _ => ?_) <;> conv => whnf))
      all_goals try (refine Or.inl ?_; conv => whnf)
    refine ⟨_, def_retN _ _ _ _ _ _ _ _ _ _ _ _, rfl, ?_⟩
    conv => whnf
    all_goals refine ⟨[], ?_⟩
    repeat (any_goals (first | exact True.intro | exact rfl | exact (by kernel_rfl) | refine Ya ?_ ?_))
    all_goals conv => whnf
theorem readS_labs (s : Rs) : (readS s).1.2.length ≤ 8 := by
  unfold readS
  simp only
  split
  · simp
  · split
    · rename_i h
      exact (right_out h).2.1
    · simp
theorem evS_err {e : Nat} {s9 : Rs} : ∀ (n : Nat) (acc : List Evt) (s : Rs), evS n acc s = (.error e, s9) → e ≠ 0
  | 0, acc, s, h => by simp [evS] at h
  | n + 1, acc, s, h => by
    rw [evS] at h
    split at h
    · rename_i hne
      injection h with h1 h2
      injection h1 with h1
      rw [← h1]; exact hne
    · exact evS_err n _ _ h
theorem eventsS_err {e : Nat} {s s9 : Rs} (h : eventsS s = (.error e, s9)) : e ≠ 0 := by
  unfold eventsS at h
  split at h
  · rename_i hne
    injection h with h1 h2
    injection h1 with h1
    rw [← h1]; exact hne
  · exact evS_err _ _ _ h
theorem evS_ok {l : List Evt} {s9 : Rs} : ∀ (n : Nat) (acc : List Evt) (s : Rs), evS n acc s = (.ok l, s9) → (∀ x ∈ acc, x.2.2.2.length ≤ 8) → l.length = acc.length + n ∧ ∀ x ∈ l, x.2.2.2.length ≤ 8
  | 0, acc, s, h, ha => by
    injection h with h1 h2
    injection h1 with h1
    subst h1
    exact ⟨rfl, ha⟩
  | n + 1, acc, s, h, ha => by
    rw [evS] at h
    split at h
    · injection h with h1 h2
      cases h1
    · obtain ⟨g1, g2⟩ := evS_ok n _ _ h (fun x hx => by
        rcases List.mem_append.1 hx with hx | hx
        · exact ha x hx
        · rw [List.mem_singleton.1 hx]
          exact readS_labs _)
      exact ⟨by rw [g1, List.length_append]; simp; omega, g2⟩
theorem eventsS_ok {l : List Evt} {s s9 : Rs} (h : eventsS s = (.ok l, s9)) : l.length ≤ 64 ∧ ∀ x ∈ l, x.2.2.2.length ≤ 8 := by
  unfold eventsS at h
  split at h
  · injection h with h1 h2
    cases h1
  · obtain ⟨g1, g2⟩ := evS_ok _ _ _ h (fun x hx => by cases hx)
    have := countS_le s 64
    exact ⟨by rw [g1]; simp; omega, g2⟩
theorem txtS_txt (s : Rs) (m : Int) : (txtS s m).1.length ≤ s.1.length := by
  unfold txtS
  split
  · exact Nat.zero_le _
  · split
    · exact Nat.zero_le _
    · split
      · exact Nat.zero_le _
      · simp only [List.length_drop, List.length_take]; omega
theorem bytes_z {L : List AObj} {ty n : Nat} {x : Operand} (l : List UInt8) (hl : l.length ≤ 65536) : Does Tryz.prog (.convert 9 36 x) ty L n [.d (styD ⟨l.toArray⟩)] ⟨[], [], [.dead]⟩ (.d (bsD l)) := Does.frz (bytes_s l hl)
theorem m4096 : in64 4096 := ⟨by decide, by decide⟩
theorem def_pan5 (e : Int) (a1 a2 a3 a4 a5 a6 a7 a8 a9 a10 a11 a12 a13 a14 : D) (z u v : AObj) : DefRun Tryz.prog 83 [.ptr 0 0, .ptr 1 0] (panM (fltV e)) (recM (fltV e))
    [.cells [.d a1, .d a2, .d a3, .d a4, .d a5, .d a6, .d a7, .d a8, .d a9, .d a10, .d a11, .d a12, .d a13, .d a14], .cells [iA 0], z, u, v] [.cells frZ, .cells [iA e], .dead, .dead, .dead] := by
  refine defRun_of_vc (T := tiOf Tryz.prog) (E := E0) Tryz.func83 rfl rfl hE0 hm0 rfl rfl rfl rfl (.inl ⟨rfl, rfl⟩) rfl ?_
  conv => whnf
  iterate 6
    repeat' (first | exact True.intro | ((first | refine Yb fun _ => ?_ | refine Yc fun _ => ?_ | refine Ya (by kernel_rfl) ?_ | refine Ya (by decide) ?_ | refine Yd (by decide) fun _ => ?_ | refine Ye (by decide) fun _ => ?_ | refine ⟨_, _, eqI e (by kernel_rfl), ?_⟩ | refine ⟨_, _, taF e, ?_⟩); conv => whnf) | (refine Ya (fun _ => ?_) (fun _ => ?_) <;> conv => whnf))
    all_goals try (refine Or.inl ?_; conv => whnf)
  all_goals try (exfalso; simp only [outL] at *; first | omega | contradiction | (simp_all; done) | (simp_all; omega))
  all_goals refine ⟨[], ?_⟩
  repeat (any_goals (first | exact True.intro | exact rfl | exact (by kernel_rfl) | refine Ya ?_ ?_))
  all_goals conv => whnf
theorem def_ret8' (k a e b c g s n t w : Int) (sr : Ser) (d : Bt) (z u v : AObj) : DefRun Tryz.prog 83 [.ptr 0 0, .ptr 1 0] .returning .returning
    [.cells [iA k, iA a, iA e, iA b, iA c, iA g, iA s, iA n, iA t, iA w, .d nilV, .d (tD sr.1), .d (.sl 2 (sr.2.map labR)), .d (bsD d)], .cells [iA 0], z, u, v] [.cells [iA k, iA a, iA e, iA b, iA c, iA g, iA s, iA n, iA t, iA w, .d nilV, .d (tD sr.1), .d (.sl 2 (sr.2.map labR)), .d (bsD d)], .cells [iA 0], .dead, .dead, .dead] := by
  refine defRun_of_vc (T := tiOf Tryz.prog) (E := E0) Tryz.func83 rfl rfl hE0 hm0 rfl rfl rfl rfl (.inr ⟨rfl, rfl, rfl⟩) rfl ?_
  conv => whnf
  iterate 6
    repeat' (first | exact True.intro | ((first | refine Yb fun _ => ?_ | refine Yc fun _ => ?_ | refine Ya (by kernel_rfl) ?_ | refine Ya (by decide) ?_ | refine Yd (by decide) fun _ => ?_ | refine Ye (by decide) fun _ => ?_ | refine ⟨_, _, eqNI (by kernel_rfl), ?_⟩); conv => whnf) | (refine Ya (fun _ => ?_) (fun _ => ?_) <;> conv => whnf))
    all_goals try (refine Or.inl ?_; conv => whnf)
  all_goals try (exfalso; simp only [outL] at *; first | omega | contradiction | (simp_all; done) | (simp_all; omega))
  all_goals refine ⟨[], ?_⟩
  repeat (any_goals (first | exact True.intro | exact rfl | exact (by kernel_rfl) | refine Ya ?_ ?_))
  all_goals conv => whnf
set_option maxHeartbeats 8000000 in
theorem parse_5 (l : Bt) (hl : l.length ≤ 65536) (s : Rs) (hu : uintS (l, 0) = (5, s)) (hs : s.2 = 0) : Sat Tryz.prog 49 [.d (bsD l)] [] (outP 5 (parseK 5 s)) [] := by
  have n1 := newG_sat l hl
  have k1 := kind_ok (l, 0) hl (by rw [hu]; exact hs) (by rw [hu]; exact (by decide : 1 ≤ 5)) (by rw [hu]; exact (by decide : 5 ≤ 8))
  rw [hu] at k1
  have hsl : s.1.length ≤ 65536 := by have := uintS_len (l, 0); rw [hu] at this; exact Nat.le_trans this hl
  have hil : ∀ i, (itS i s).1.length ≤ 65536 := fun i => Nat.le_trans (itS_len s i) hsl
  have f2 := fields_n 5 (by decide) (by decide) 0 0 0 0 0 0 0 0 0
  have c1 := check_ok
  have hpe := fun i => parseK_err (k := 5) (s := s) i
  have hpg := parseK_go (k := 5) (s := s)
  generalize hP : parseK 5 s = PP at *
  refine satD_of_vc (T := tiOf Tryz.prog) (E := E0) (gc := 83) (ys := [.ptr 0 0, .ptr 1 0]) PnF Tryz.func49 rfl rfl hE0 hm0 rfl rfl rfl rfl rfl rfl rfl rfl rfl ?_
  conv => whnf
  iterate 5
    repeat' (first | exact True.intro | ((first | refine Yb fun _ => ?_ | refine Yc fun _ => ?_ | refine Ya (by kernel_rfl) ?_ | refine Ya (by decide) ?_ | refine Yd (by decide) fun _ => ?_ | refine Ye (by decide) fun _ => ?_ | refine ⟨_, _, n1.nw rfl, ?_⟩ | refine ⟨_, _, k1.at1 2 rfl rfl rfl, ?_⟩ | refine ⟨_, _, f2.at1 0 rfl rfl rfl, ?_⟩ | refine ⟨_, _, lenP (by kernel_rfl), ?_⟩); conv => whnf) | (refine Ya (fun _ => ?_) (fun _ => ?_) <;> conv => whnf))
    all_goals try (refine Or.inl ?_; conv => whnf)
  all_goals try (exfalso; simp only [outL] at *; first | omega | contradiction | (simp_all; done) | (simp_all; omega))
  refine ⟨Nat, fun i => i ≤ 3 ∧ (itS i s).2 = 0, fun i => ([(16, iA i), (15, iA 3), (14, .rel 3 (slP 3)), (4, .ptr 2 0), (3, .ptr 1 0), (2, .ptr 0 0)], [.cells (frN 5 (vb 5 i s 1) (vb 5 i s 2) (vb 5 i s 3) (vb 5 i s 4) (vb 5 i s 5) (vb 5 i s 6) (vb 5 i s 7) (vb 5 i s 8) (vb 5 i s 9)), .cells [iA 0], rsO (itS i s), .cells (ptrsK 5)]), fun i => 3 - i, ⟨0, ⟨Nat.zero_le _, hs⟩, ?_⟩, ?_⟩
  · all_goals refine ⟨[], ?_⟩
    repeat (any_goals (first | exact True.intro | exact rfl | exact (by kernel_rfl) | refine Ya ?_ ?_))
    all_goals conv => whnf
  rintro i ⟨hi, hI⟩
  have hi : i ≤ 3 := hi
  obtain rfl | rfl | rfl | rfl : i = 0 ∨ i = 1 ∨ i = 2 ∨ i = 3 := by omega
  · have u1 := uintG_sat (itS 0 s) (hil 0)
    have r1 := errG_sat (itS 1 s)
    conv => whnf
    by_cases he : (itS 1 s).2 = 0
    · rw [he] at r1
      iterate 5
        repeat' (first | exact True.intro | ((first | refine Yb fun _ => ?_ | refine Yc fun _ => ?_ | refine Ya (by kernel_rfl) ?_ | refine Ya (by decide) ?_ | refine Yd (by decide) fun _ => ?_ | refine Ye (by decide) fun _ => ?_ | refine ⟨_, _, ixP (by kernel_rfl) (by kernel_rfl) (by decide), ?_⟩ | refine ⟨_, _, u1.at1 2 rfl rfl rfl, ?_⟩ | refine ⟨_, _, r1.at1 2 rfl rfl rfl, ?_⟩ | refine ⟨_, _, c1.pu rfl rfl, ?_⟩); conv => whnf) | (refine Ya (fun _ => ?_) (fun _ => ?_) <;> conv => whnf))
        all_goals try (refine Or.inl ?_; conv => whnf)
      refine ⟨1, ⟨by decide, he⟩, by decide, ?_⟩
      all_goals refine ⟨[], ?_⟩
      repeat (any_goals (first | exact True.intro | exact rfl | exact (by kernel_rfl) | refine Ya ?_ ?_))
      all_goals conv => whnf
    · have c2 := check_no ((itS 1 s).2 : Int) (by omega)
      obtain rfl := hpe 1 (by decide) he
      rw [outP_err he]
      iterate 5
        repeat' (first | exact True.intro | ((first | refine Or.inr ⟨_, _, c2.pu rfl rfl, ?_⟩ | refine Yb fun _ => ?_ | refine Yc fun _ => ?_ | refine Ya (by kernel_rfl) ?_ | refine Ya (by decide) ?_ | refine Yd (by decide) fun _ => ?_ | refine Ye (by decide) fun _ => ?_ | refine ⟨_, _, ixP (by kernel_rfl) (by kernel_rfl) (by decide), ?_⟩ | refine ⟨_, _, u1.at1 2 rfl rfl rfl, ?_⟩ | refine ⟨_, _, r1.at1 2 rfl rfl rfl, ?_⟩); conv => whnf) | (refine Ya (fun _ => ?_) (fun _ => ?_) <;> conv => whnf))
        all_goals try (refine Or.inl ?_; conv => whnf)
      refine ⟨_, def_pan4 _ _ _ _ _ _ _ _ _ _ _ _ _ _ _ _ _, rfl, ?_⟩
      conv => whnf
      all_goals refine ⟨[], ?_⟩
      repeat (any_goals (first | exact True.intro | exact rfl | exact (by kernel_rfl) | refine Ya ?_ ?_))
      all_goals conv => whnf
  · have u1 := uintG_sat (itS 1 s) (hil 1)
    have r1 := errG_sat (itS 2 s)
    conv => whnf
    by_cases he : (itS 2 s).2 = 0
    · rw [he] at r1
      iterate 5
        repeat' (first | exact True.intro | ((first | refine Yb fun _ => ?_ | refine Yc fun _ => ?_ | refine Ya (by kernel_rfl) ?_ | refine Ya (by decide) ?_ | refine Yd (by decide) fun _ => ?_ | refine Ye (by decide) fun _ => ?_ | refine ⟨_, _, ixP (by kernel_rfl) (by kernel_rfl) (by decide), ?_⟩ | refine ⟨_, _, u1.at1 2 rfl rfl rfl, ?_⟩ | refine ⟨_, _, r1.at1 2 rfl rfl rfl, ?_⟩ | refine ⟨_, _, c1.pu rfl rfl, ?_⟩); conv => whnf) | (refine Ya (fun _ => ?_) (fun _ => ?_) <;> conv => whnf))
        all_goals try (refine Or.inl ?_; conv => whnf)
      refine ⟨2, ⟨by decide, he⟩, by decide, ?_⟩
      all_goals refine ⟨[], ?_⟩
      repeat (any_goals (first | exact True.intro | exact rfl | exact (by kernel_rfl) | refine Ya ?_ ?_))
      all_goals conv => whnf
    · have c2 := check_no ((itS 2 s).2 : Int) (by omega)
      obtain rfl := hpe 2 (by decide) he
      rw [outP_err he]
      iterate 5
        repeat' (first | exact True.intro | ((first | refine Or.inr ⟨_, _, c2.pu rfl rfl, ?_⟩ | refine Yb fun _ => ?_ | refine Yc fun _ => ?_ | refine Ya (by kernel_rfl) ?_ | refine Ya (by decide) ?_ | refine Yd (by decide) fun _ => ?_ | refine Ye (by decide) fun _ => ?_ | refine ⟨_, _, ixP (by kernel_rfl) (by kernel_rfl) (by decide), ?_⟩ | refine ⟨_, _, u1.at1 2 rfl rfl rfl, ?_⟩ | refine ⟨_, _, r1.at1 2 rfl rfl rfl, ?_⟩); conv => whnf) | (refine Ya (fun _ => ?_) (fun _ => ?_) <;> conv => whnf))
        all_goals try (refine Or.inl ?_; conv => whnf)
      refine ⟨_, def_pan4 _ _ _ _ _ _ _ _ _ _ _ _ _ _ _ _ _, rfl, ?_⟩
      conv => whnf
      all_goals refine ⟨[], ?_⟩
      repeat (any_goals (first | exact True.intro | exact rfl | exact (by kernel_rfl) | refine Ya ?_ ?_))
      all_goals conv => whnf
  · have u1 := uintG_sat (itS 2 s) (hil 2)
    have r1 := errG_sat (itS 3 s)
    conv => whnf
    by_cases he : (itS 3 s).2 = 0
    · rw [he] at r1
      iterate 5
        repeat' (first | exact True.intro | ((first | refine Yb fun _ => ?_ | refine Yc fun _ => ?_ | refine Ya (by kernel_rfl) ?_ | refine Ya (by decide) ?_ | refine Yd (by decide) fun _ => ?_ | refine Ye (by decide) fun _ => ?_ | refine ⟨_, _, ixP (by kernel_rfl) (by kernel_rfl) (by decide), ?_⟩ | refine ⟨_, _, u1.at1 2 rfl rfl rfl, ?_⟩ | refine ⟨_, _, r1.at1 2 rfl rfl rfl, ?_⟩ | refine ⟨_, _, c1.pu rfl rfl, ?_⟩); conv => whnf) | (refine Ya (fun _ => ?_) (fun _ => ?_) <;> conv => whnf))
        all_goals try (refine Or.inl ?_; conv => whnf)
      refine ⟨3, ⟨by decide, he⟩, by decide, ?_⟩
      all_goals refine ⟨[], ?_⟩
      repeat (any_goals (first | exact True.intro | exact rfl | exact (by kernel_rfl) | refine Ya ?_ ?_))
      all_goals conv => whnf
    · have c2 := check_no ((itS 3 s).2 : Int) (by omega)
      obtain rfl := hpe 3 (by decide) he
      rw [outP_err he]
      iterate 5
        repeat' (first | exact True.intro | ((first | refine Or.inr ⟨_, _, c2.pu rfl rfl, ?_⟩ | refine Yb fun _ => ?_ | refine Yc fun _ => ?_ | refine Ya (by kernel_rfl) ?_ | refine Ya (by decide) ?_ | refine Yd (by decide) fun _ => ?_ | refine Ye (by decide) fun _ => ?_ | refine ⟨_, _, ixP (by kernel_rfl) (by kernel_rfl) (by decide), ?_⟩ | refine ⟨_, _, u1.at1 2 rfl rfl rfl, ?_⟩ | refine ⟨_, _, r1.at1 2 rfl rfl rfl, ?_⟩); conv => whnf) | (refine Ya (fun _ => ?_) (fun _ => ?_) <;> conv => whnf))
        all_goals try (refine Or.inl ?_; conv => whnf)
      refine ⟨_, def_pan4 _ _ _ _ _ _ _ _ _ _ _ _ _ _ _ _ _, rfl, ?_⟩
      conv => whnf
      all_goals refine ⟨[], ?_⟩
      repeat (any_goals (first | exact True.intro | exact rfl | exact (by kernel_rfl) | refine Ya ?_ ?_))
      all_goals conv => whnf
  have hq := hpg hI
  obtain ⟨re, s9, hev⟩ : ∃ re s9, eventsS (itS 3 s) = (re, s9) := ⟨_, _, rfl⟩
  cases re with
  | error e =>
    have hne := eventsS_err hev
    have v1 := events_err (itS 3 s) (hil 3) hev
    replace hq : PP = (frO, e) := by rw [hq]; unfold tailP; simp only [show (idxK 5).length = 3 from rfl, hev]
    subst hq
    rw [outP_err hne]
    conv => whnf
    iterate 7
      repeat' (first | exact True.intro | ((first | refine Or.inr ⟨_, _, v1.at1 2 rfl rfl rfl, ?_⟩ | refine Yb fun _ => ?_ | refine Yc fun _ => ?_ | refine Ya (by kernel_rfl) ?_ | refine Ya (by decide) ?_ | refine Yd (by decide) fun _ => ?_ | refine Ye (by decide) fun _ => ?_); conv => whnf) | (refine Ya (fun _ => ?_) (fun _ => ?_) <;> conv => whnf))
      all_goals try (refine Or.inl ?_; conv => whnf)
    refine ⟨_, def_pan4 _ _ _ _ _ _ _ _ _ _ _ _ _ _ _ _ _, rfl, ?_⟩
    conv => whnf
    all_goals refine ⟨[], ?_⟩
    repeat (any_goals (first | exact True.intro | exact rfl | exact (by kernel_rfl) | refine Ya ?_ ?_))
    all_goals conv => whnf
  | ok l5 =>
  have v1 := events_ok (itS 3 s) (hil 3) hev
  obtain ⟨g1, g2⟩ := eventsS_ok hev
  have h9 : s9.1.length ≤ 65536 := by have := eventsS_len (itS 3 s); rw [hev] at this; exact Nat.le_trans this (hil 3)
  replace hq : PP = finP (frS 5 3 s l5 ([], []) []) s9 := by rw [hq]; unfold tailP; simp only [show (idxK 5).length = 3 from rfl, hev]
  have e1 := endG_sat s9 h9
  have hfo := frS_ok 5 3 s (by decide) (ev := l5) (sr := ([], [])) [] (by omega) (fun x hx => by have := g2 x hx; omega) (by simp)
  conv => whnf
  by_cases he : (endS s9).2 = 0
  case neg =>
    have c2 := check_no ((endS s9).2 : Int) (by omega)
    rw [finP_end he] at hq
    subst hq
    rw [outP_err he]
    iterate 7
      repeat' (first | exact True.intro | ((first | refine Or.inr ⟨_, _, c2.pu rfl rfl, ?_⟩ | refine Yb fun _ => ?_ | refine Yc fun _ => ?_ | refine Ya (by kernel_rfl) ?_ | refine Ya (by decide) ?_ | refine Yd (by decide) fun _ => ?_ | refine Ye (by decide) fun _ => ?_ | refine ⟨_, _, v1.at1 2 rfl rfl rfl, ?_⟩ | refine ⟨_, _, e1.at1 2 rfl rfl rfl, ?_⟩ | refine ⟨_, _, c1.pu rfl rfl, ?_⟩); conv => whnf) | (refine Ya (fun _ => ?_) (fun _ => ?_) <;> conv => whnf))
      all_goals try (refine Or.inl ?_; conv => whnf)
    refine ⟨_, def_pan4 _ _ _ _ _ _ _ _ _ _ _ _ _ _ _ _ _, rfl, ?_⟩
    conv => whnf
    all_goals refine ⟨[], ?_⟩
    repeat (any_goals (first | exact True.intro | exact rfl | exact (by kernel_rfl) | refine Ya ?_ ?_))
    all_goals conv => whnf
  rw [he] at e1
  have r1 := right_pre (frS 5 3 s l5 ([], []) []) hfo (xs := shR 5 ((frS 5 3 s l5 ([], []) []), 0)) (by repeat' (first | exact trivial | refine And.intro ?_ ?_ | exact .inl rfl | exact .inr ⟨rfl, _, rfl⟩))
  cases hr : rightF (frS 5 3 s l5 ([], []) []) with
  | false =>
    rw [hr] at r1
    rw [finP_no he hr] at hq
    subst hq
    rw [outP_err (by decide)]
    iterate 7
      repeat' (first | exact True.intro | ((first | refine Yb fun _ => ?_ | refine Yc fun _ => ?_ | refine Ya (by kernel_rfl) ?_ | refine Ya (by decide) ?_ | refine Yd (by decide) fun _ => ?_ | refine Ye (by decide) fun _ => ?_ | refine ⟨_, _, v1.at1 2 rfl rfl rfl, ?_⟩ | refine ⟨_, _, e1.at1 2 rfl rfl rfl, ?_⟩ | refine ⟨_, _, c1.pu rfl rfl, ?_⟩ | refine ⟨_, _, r1.pu rfl rfl, ?_⟩ | refine ⟨_, _, mkI 10, ?_⟩); conv => whnf) | (refine Ya (fun _ => ?_) (fun _ => ?_) <;> conv => whnf))
      all_goals try (refine Or.inl ?_; conv => whnf)
    refine ⟨_, def_pan4 _ _ _ _ _ _ _ _ _ _ _ _ _ _ _ _ _, rfl, ?_⟩
    conv => whnf
    all_goals refine ⟨[], ?_⟩
    repeat (any_goals (first | exact True.intro | exact rfl | exact (by kernel_rfl) | refine Ya ?_ ?_))
    all_goals conv => whnf
  | true =>
    rw [hr] at r1
    rw [finP_ok he hr] at hq
    subst hq
    iterate 7
      repeat' (first | exact True.intro | ((first | refine Yb fun _ => ?_ | refine Yc fun _ => ?_ | refine Ya (by kernel_rfl) ?_ | refine Ya (by decide) ?_ | refine Yd (by decide) fun _ => ?_ | refine Ye (by decide) fun _ => ?_ | refine ⟨_, _, v1.at1 2 rfl rfl rfl, ?_⟩ | refine ⟨_, _, e1.at1 2 rfl rfl rfl, ?_⟩ | refine ⟨_, _, c1.pu rfl rfl, ?_⟩ | refine ⟨_, _, r1.pu rfl rfl, ?_⟩); conv => whnf) | (refine Ya (fun _ => ?_) (fun _ => ?_) <;> conv => whnf))
      all_goals try (refine Or.inl ?_; conv => whnf)
    refine ⟨_, def_ret5 _ _ _ _ _ _ _ _ _ _ _ _ _, rfl, ?_⟩
    conv => whnf
    all_goals refine ⟨[], ?_⟩
    repeat (any_goals (first | exact True.intro | exact rfl | exact (by kernel_rfl) | refine Ya ?_ ?_))
    all_goals conv => whnf
set_option maxHeartbeats 8000000 in
theorem parse_8 (l : Bt) (hl : l.length ≤ 65536) (s : Rs) (hu : uintS (l, 0) = (8, s)) (hs : s.2 = 0) : Sat Tryz.prog 49 [.d (bsD l)] [] (outP 8 (parseK 8 s)) [] := by
  have n1 := newG_sat l hl
  have k1 := kind_ok (l, 0) hl (by rw [hu]; exact hs) (by rw [hu]; exact (by decide : 1 ≤ 8)) (by rw [hu]; exact (by decide : 8 ≤ 8))
  rw [hu] at k1
  have hsl : s.1.length ≤ 65536 := by have := uintS_len (l, 0); rw [hu] at this; exact Nat.le_trans this hl
  have hil : ∀ i, (itS i s).1.length ≤ 65536 := fun i => Nat.le_trans (itS_len s i) hsl
  have f2 := fields_n 8 (by decide) (by decide) 0 0 0 0 0 0 0 0 0
  have c1 := check_ok
  have hpe := fun i => parseK_err (k := 8) (s := s) i
  have hpg := parseK_go (k := 8) (s := s)
  generalize hP : parseK 8 s = PP at *
  refine satD_of_vc (T := tiOf Tryz.prog) (E := E0) (gc := 83) (ys := [.ptr 0 0, .ptr 1 0]) PnF Tryz.func49 rfl rfl hE0 hm0 rfl rfl rfl rfl rfl rfl rfl rfl rfl ?_
  conv => whnf
  iterate 5
    repeat' (first | exact True.intro | ((first | refine Yb fun _ => ?_ | refine Yc fun _ => ?_ | refine Ya (by kernel_rfl) ?_ | refine Ya (by decide) ?_ | refine Yd (by decide) fun _ => ?_ | refine Ye (by decide) fun _ => ?_ | refine ⟨_, _, n1.nw rfl, ?_⟩ | refine ⟨_, _, k1.at1 2 rfl rfl rfl, ?_⟩ | refine ⟨_, _, f2.at1 0 rfl rfl rfl, ?_⟩ | refine ⟨_, _, lenP (by kernel_rfl), ?_⟩); conv => whnf) | (refine Ya (fun _ => ?_) (fun _ => ?_) <;> conv => whnf))
    all_goals try (refine Or.inl ?_; conv => whnf)
  all_goals try (exfalso; simp only [outL] at *; first | omega | contradiction | (simp_all; done) | (simp_all; omega))
  refine ⟨Nat, fun i => i ≤ 1 ∧ (itS i s).2 = 0, fun i => ([(16, iA i), (15, iA 1), (14, .rel 3 (slP 1)), (4, .ptr 2 0), (3, .ptr 1 0), (2, .ptr 0 0)], [.cells (frN 8 (vb 8 i s 1) (vb 8 i s 2) (vb 8 i s 3) (vb 8 i s 4) (vb 8 i s 5) (vb 8 i s 6) (vb 8 i s 7) (vb 8 i s 8) (vb 8 i s 9)), .cells [iA 0], rsO (itS i s), .cells (ptrsK 8)]), fun i => 1 - i, ⟨0, ⟨Nat.zero_le _, hs⟩, ?_⟩, ?_⟩
  · all_goals refine ⟨[], ?_⟩
    repeat (any_goals (first | exact True.intro | exact rfl | exact (by kernel_rfl) | refine Ya ?_ ?_))
    all_goals conv => whnf
  rintro i ⟨hi, hI⟩
  have hi : i ≤ 1 := hi
  obtain rfl | rfl : i = 0 ∨ i = 1 := by omega
  · have u1 := uintG_sat (itS 0 s) (hil 0)
    have r1 := errG_sat (itS 1 s)
    conv => whnf
    by_cases he : (itS 1 s).2 = 0
    · rw [he] at r1
      iterate 5
        repeat' (first | exact True.intro | ((first | refine Yb fun _ => ?_ | refine Yc fun _ => ?_ | refine Ya (by kernel_rfl) ?_ | refine Ya (by decide) ?_ | refine Yd (by decide) fun _ => ?_ | refine Ye (by decide) fun _ => ?_ | refine ⟨_, _, ixP (by kernel_rfl) (by kernel_rfl) (by decide), ?_⟩ | refine ⟨_, _, u1.at1 2 rfl rfl rfl, ?_⟩ | refine ⟨_, _, r1.at1 2 rfl rfl rfl, ?_⟩ | refine ⟨_, _, c1.pu rfl rfl, ?_⟩); conv => whnf) | (refine Ya (fun _ => ?_) (fun _ => ?_) <;> conv => whnf))
        all_goals try (refine Or.inl ?_; conv => whnf)
      refine ⟨1, ⟨by decide, he⟩, by decide, ?_⟩
      all_goals refine ⟨[], ?_⟩
      repeat (any_goals (first | exact True.intro | exact rfl | exact (by kernel_rfl) | refine Ya ?_ ?_))
      all_goals conv => whnf
    · have c2 := check_no ((itS 1 s).2 : Int) (by omega)
      obtain rfl := hpe 1 (by decide) he
      rw [outP_err he]
      iterate 5
        repeat' (first | exact True.intro | ((first | refine Or.inr ⟨_, _, c2.pu rfl rfl, ?_⟩ | refine Yb fun _ => ?_ | refine Yc fun _ => ?_ | refine Ya (by kernel_rfl) ?_ | refine Ya (by decide) ?_ | refine Yd (by decide) fun _ => ?_ | refine Ye (by decide) fun _ => ?_ | refine ⟨_, _, ixP (by kernel_rfl) (by kernel_rfl) (by decide), ?_⟩ | refine ⟨_, _, u1.at1 2 rfl rfl rfl, ?_⟩ | refine ⟨_, _, r1.at1 2 rfl rfl rfl, ?_⟩); conv => whnf) | (refine Ya (fun _ => ?_) (fun _ => ?_) <;> conv => whnf))
        all_goals try (refine Or.inl ?_; conv => whnf)
      refine ⟨_, def_pan4 _ _ _ _ _ _ _ _ _ _ _ _ _ _ _ _ _, rfl, ?_⟩
      conv => whnf
      all_goals refine ⟨[], ?_⟩
      repeat (any_goals (first | exact True.intro | exact rfl | exact (by kernel_rfl) | refine Ya ?_ ?_))
      all_goals conv => whnf
  have hq := hpg hI
  have l1 := readS_len (itS 1 s)
  have l2 := hil 1
  have hrl : (readS (itS 1 s)).2.2.1.length ≤ 65536 := by omega
  by_cases hre : (readS (itS 1 s)).2.1 = 0
  case neg =>
    have v1 := ser_err (itS 1 s) (hil 1) hre
    replace hq : PP = (frO, (readS (itS 1 s)).2.1) := by rw [hq]; exact if_pos hre
    subst hq
    rw [outP_err hre]
    conv => whnf
    iterate 7
      repeat' (first | exact True.intro | ((first | refine Or.inr ⟨_, _, v1.at1 2 rfl rfl rfl, ?_⟩ | refine Yb fun _ => ?_ | refine Yc fun _ => ?_ | refine Ya (by kernel_rfl) ?_ | refine Ya (by decide) ?_ | refine Yd (by decide) fun _ => ?_ | refine Ye (by decide) fun _ => ?_); conv => whnf) | (refine Ya (fun _ => ?_) (fun _ => ?_) <;> conv => whnf))
      all_goals try (refine Or.inl ?_; conv => whnf)
    refine ⟨_, def_pan4 _ _ _ _ _ _ _ _ _ _ _ _ _ _ _ _ _, rfl, ?_⟩
    conv => whnf
    all_goals refine ⟨[], ?_⟩
    repeat (any_goals (first | exact True.intro | exact rfl | exact (by kernel_rfl) | refine Ya ?_ ?_))
    all_goals conv => whnf
  have v1 := ser_ok (itS 1 s) (hil 1) hre
  have v2 := txtG_sat (readS (itS 1 s)).2.2 4096 m4096 hrl
  have l3 := txtS_txt (readS (itS 1 s)).2.2 4096
  have l4 := txtS_len (readS (itS 1 s)).2.2 4096
  have l5 := readS_labs (itS 1 s)
  have r9 := errG_sat (txtS (readS (itS 1 s)).2.2 4096).2
  replace hq : PP = if (txtS (readS (itS 1 s)).2.2 4096).2.2 ≠ 0 then (frO, (txtS (readS (itS 1 s)).2.2 4096).2.2) else finP (frS 8 1 s [] (readS (itS 1 s)).1 (txtS (readS (itS 1 s)).2.2 4096).1) (txtS (readS (itS 1 s)).2.2 4096).2 := by
    rw [hq]
    exact if_neg fun h => h hre
  generalize readS (itS 1 s) = rr at *
  obtain ⟨sr, er, s8⟩ := rr
  simp only at v1 v2 l3 l4 l5 r9 hq hrl
  generalize txtS s8 4096 = tt at *
  obtain ⟨d8, s9⟩ := tt
  simp only at v2 l3 l4 r9 hq
  have hd8 : d8.length ≤ 65536 := by omega
  have h9 : s9.1.length ≤ 65536 := by omega
  by_cases hte : s9.2 = 0
  case neg =>
    have c2 := check_no (s9.2 : Int) (by omega)
    rw [if_pos hte] at hq
    subst hq
    rw [outP_err hte]
    conv => whnf
    iterate 7
      repeat' (first | exact True.intro | ((first | refine Or.inr ⟨_, _, c2.pu rfl rfl, ?_⟩ | refine Yb fun _ => ?_ | refine Yc fun _ => ?_ | refine Ya (by kernel_rfl) ?_ | refine Ya (by decide) ?_ | refine Yd (by decide) fun _ => ?_ | refine Ye (by decide) fun _ => ?_ | refine ⟨_, _, v1.at1 2 rfl rfl rfl, ?_⟩ | refine ⟨_, _, v2.at1 2 rfl rfl rfl, ?_⟩ | refine ⟨_, _, bytes_z d8 hd8, ?_⟩ | refine ⟨_, _, r9.at1 2 rfl rfl rfl, ?_⟩); conv => whnf) | (refine Ya (fun _ => ?_) (fun _ => ?_) <;> conv => whnf))
      all_goals try (refine Or.inl ?_; conv => whnf)
    refine ⟨_, def_pan5 _ _ _ _ _ _ _ _ _ _ _ _ _ _ _ _ _ _, rfl, ?_⟩
    conv => whnf
    all_goals refine ⟨[], ?_⟩
    repeat (any_goals (first | exact True.intro | exact rfl | exact (by kernel_rfl) | refine Ya ?_ ?_))
    all_goals conv => whnf
  rw [if_neg (by omega)] at hq
  rw [hte] at r9
  have e1 := endG_sat s9 h9
  have hfo := frS_ok 8 1 s (by decide) (ev := []) (sr := sr) d8 (by simp) (by simp) (by omega)
  conv => whnf
  by_cases he : (endS s9).2 = 0
  case neg =>
    have c2 := check_no ((endS s9).2 : Int) (by omega)
    rw [finP_end he] at hq
    subst hq
    rw [outP_err he]
    iterate 7
      repeat' (first | exact True.intro | ((first | refine Or.inr ⟨_, _, c2.pu rfl rfl, ?_⟩ | refine Yb fun _ => ?_ | refine Yc fun _ => ?_ | refine Ya (by kernel_rfl) ?_ | refine Ya (by decide) ?_ | refine Yd (by decide) fun _ => ?_ | refine Ye (by decide) fun _ => ?_ | refine ⟨_, _, v1.at1 2 rfl rfl rfl, ?_⟩ | refine ⟨_, _, v2.at1 2 rfl rfl rfl, ?_⟩ | refine ⟨_, _, bytes_z d8 hd8, ?_⟩ | refine ⟨_, _, r9.at1 2 rfl rfl rfl, ?_⟩ | refine ⟨_, _, e1.at1 2 rfl rfl rfl, ?_⟩ | refine ⟨_, _, c1.pu rfl rfl, ?_⟩); conv => whnf) | (refine Ya (fun _ => ?_) (fun _ => ?_) <;> conv => whnf))
      all_goals try (refine Or.inl ?_; conv => whnf)
    refine ⟨_, def_pan5 _ _ _ _ _ _ _ _ _ _ _ _ _ _ _ _ _ _, rfl, ?_⟩
    conv => whnf
    all_goals refine ⟨[], ?_⟩
    repeat (any_goals (first | exact True.intro | exact rfl | exact (by kernel_rfl) | refine Ya ?_ ?_))
    all_goals conv => whnf
  rw [he] at e1
  have r1 := right_pre (frS 8 1 s [] sr d8) hfo (xs := shR 8 ((frS 8 1 s [] sr d8), 0)) (by repeat' (first | exact trivial | refine And.intro ?_ ?_ | exact .inl rfl | exact .inr ⟨rfl, _, rfl⟩))
  cases hr : rightF (frS 8 1 s [] sr d8) with
  | false =>
    rw [hr] at r1
    rw [finP_no he hr] at hq
    subst hq
    rw [outP_err (by decide)]
    iterate 7
      repeat' (first | exact True.intro | ((first | refine Yb fun _ => ?_ | refine Yc fun _ => ?_ | refine Ya (by kernel_rfl) ?_ | refine Ya (by decide) ?_ | refine Yd (by decide) fun _ => ?_ | refine Ye (by decide) fun _ => ?_ | refine ⟨_, _, v1.at1 2 rfl rfl rfl, ?_⟩ | refine ⟨_, _, v2.at1 2 rfl rfl rfl, ?_⟩ | refine ⟨_, _, bytes_z d8 hd8, ?_⟩ | refine ⟨_, _, r9.at1 2 rfl rfl rfl, ?_⟩ | refine ⟨_, _, e1.at1 2 rfl rfl rfl, ?_⟩ | refine ⟨_, _, c1.pu rfl rfl, ?_⟩ | refine ⟨_, _, r1.pu rfl rfl, ?_⟩ | refine ⟨_, _, mkI 10, ?_⟩); conv => whnf) | (refine Ya (fun _ => ?_) (fun _ => ?_) <;> conv => whnf))
      all_goals try (refine Or.inl ?_; conv => whnf)
    refine ⟨_, def_pan5 _ _ _ _ _ _ _ _ _ _ _ _ _ _ _ _ _ _, rfl, ?_⟩
    conv => whnf
    all_goals refine ⟨[], ?_⟩
    repeat (any_goals (first | exact True.intro | exact rfl | exact (by kernel_rfl) | refine Ya ?_ ?_))
    all_goals conv => whnf
  | true =>
    rw [hr] at r1
    rw [finP_ok he hr] at hq
    subst hq
    iterate 7
      repeat' (first | exact True.intro | ((first | refine Yb fun _ => ?_ | refine Yc fun _ => ?_ | refine Ya (by kernel_rfl) ?_ | refine Ya (by decide) ?_ | refine Yd (by decide) fun _ => ?_ | refine Ye (by decide) fun _ => ?_ | refine ⟨_, _, v1.at1 2 rfl rfl rfl, ?_⟩ | refine ⟨_, _, v2.at1 2 rfl rfl rfl, ?_⟩ | refine ⟨_, _, bytes_z d8 hd8, ?_⟩ | refine ⟨_, _, r9.at1 2 rfl rfl rfl, ?_⟩ | refine ⟨_, _, e1.at1 2 rfl rfl rfl, ?_⟩ | refine ⟨_, _, c1.pu rfl rfl, ?_⟩ | refine ⟨_, _, r1.pu rfl rfl, ?_⟩); conv => whnf) | (refine Ya (fun _ => ?_) (fun _ => ?_) <;> conv => whnf))
      all_goals try (refine Or.inl ?_; conv => whnf)
    refine ⟨_, def_ret8' _ _ _ _ _ _ _ _ _ _ _ _ _ _ _, rfl, ?_⟩
    conv => whnf
    all_goals refine ⟨[], ?_⟩
    repeat (any_goals (first | exact True.intro | exact rfl | exact (by kernel_rfl) | refine Ya ?_ ?_))
    all_goals conv => whnf
end Go.Proofs.YtfbfpnfgabamfaaGreat
