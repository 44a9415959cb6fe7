/- Parts FrQ, FrR, FrT, FrU, Fz, FrV, FrW, FrY, FrZ of the proof, put together. -/
import Derived.Test.YtfbfpnfgabamfaaM13
/- frame: parse at a batch and at a backlog's row. -/
namespace Go.Proofs.Ytfbfpnfgabamfaa
set_option linter.unusedSimpArgs false
open Go.RowKit
set_option maxRecDepth 100000
set_option linter.unusedVariables false
theorem readS_labs (s : Rs) : (readS s).1.2.length ≤ 8 := by
  unfold readS
  simp only
  split
  · simp
  · split
    · rename_i h
      exact (right_out h).2.1
    · simp
theorem evS_err {e : Nat} {s9 : Rs} : ∀ (n : Nat) (acc : List Evt) (s : Rs), evS n acc s = (.error e, s9) → e ≠ 0
  | 0, acc, s, h => by simp [evS] at h
  | n + 1, acc, s, h => by
    rw [evS] at h
    split at h
    · rename_i hne
      injection h with h1 h2
      injection h1 with h1
      rw [← h1]; exact hne
    · exact evS_err n _ _ h
theorem eventsS_err {e : Nat} {s s9 : Rs} (h : eventsS s = (.error e, s9)) : e ≠ 0 := by
  unfold eventsS at h
  split at h
  · rename_i hne
    injection h with h1 h2
    injection h1 with h1
    rw [← h1]; exact hne
  · exact evS_err _ _ _ h
theorem evS_ok {l : List Evt} {s9 : Rs} : ∀ (n : Nat) (acc : List Evt) (s : Rs), evS n acc s = (.ok l, s9) → (∀ x ∈ acc, x.2.2.2.length ≤ 8) → l.length = acc.length + n ∧ ∀ x ∈ l, x.2.2.2.length ≤ 8
  | 0, acc, s, h, ha => by
    injection h with h1 h2
    injection h1 with h1
    subst h1
    exact ⟨rfl, ha⟩
  | n + 1, acc, s, h, ha => by
    rw [evS] at h
    split at h
    · injection h with h1 h2
      cases h1
    · obtain ⟨g1, g2⟩ := evS_ok n _ _ h (fun x hx => by
        rcases List.mem_append.1 hx with hx | hx
        · exact ha x hx
        · rw [List.mem_singleton.1 hx]
          exact readS_labs _)
      exact ⟨by rw [g1, List.length_append]; simp; omega, g2⟩
theorem eventsS_ok {l : List Evt} {s s9 : Rs} (h : eventsS s = (.ok l, s9)) : l.length ≤ 64 ∧ ∀ x ∈ l, x.2.2.2.length ≤ 8 := by
  unfold eventsS at h
  split at h
  · injection h with h1 h2
    cases h1
  · obtain ⟨g1, g2⟩ := evS_ok _ _ _ h (fun x hx => by cases hx)
    have := countS_le s 64
    exact ⟨by rw [g1]; simp; omega, g2⟩
theorem txtS_txt (s : Rs) (m : Int) : (txtS s m).1.length ≤ s.1.length := by
  unfold txtS
  split
  · exact Nat.zero_le _
  · split
    · exact Nat.zero_le _
    · split
      · exact Nat.zero_le _
      · simp only [List.length_drop, List.length_take]; omega
theorem bytes_z {L : List AObj} {ty n : Nat} {x : Operand} (l : List UInt8) (hl : l.length ≤ 65536) : Does Try.prog (.convert 9 28 x) ty L n [.d (styD ⟨l.toArray⟩)] ⟨[], [], [.dead]⟩ (.d (bsD l)) := Does.frz (bytes_s l hl)
theorem m4096 : in64 4096 := ⟨by decide, by decide⟩
theorem def_pan5 (e : Int) (a1 a2 a3 a4 a5 a6 a7 a8 a9 a10 a11 a12 a13 a14 : D) (z u v : AObj) : DefRun Try.prog 32 [.ptr 0 0, .ptr 1 0] (panM (fltV e)) (recM (fltV e))
    [.cells [.d a1, .d a2, .d a3, .d a4, .d a5, .d a6, .d a7, .d a8, .d a9, .d a10, .d a11, .d a12, .d a13, .d a14], .cells [iA 0], z, u, v] [.cells frZ, .cells [iA e], .dead, .dead, .dead] := by
  refine defRun_of_vc (T := tiOf Try.prog) (E := E0) Try.func32 rfl rfl hE0 hm0 rfl rfl rfl rfl (.inl ⟨rfl, rfl⟩) rfl ?_
  conv => whnf
  iterate 6
    repeat' (first | exact True.intro | ((first | refine And.intro (fun _ => ?_) tf | refine And.intro ft (fun _ => ?_) | refine And.intro (by kernel_rfl) ?_ | refine And.intro (by decide) ?_ | refine And.intro (fun _ => ?_) (fun h => absurd h (by decide)) | refine And.intro (fun h => absurd h (by decide)) (fun _ => ?_) | refine ⟨_, _, eqI e (by kernel_rfl), ?_⟩ | refine ⟨_, _, taF e, ?_⟩ | fail); conv => whnf) | (refine And.intro (fun _ => ?_) (fun _ => ?_) <;> conv => whnf) | fail)
    all_goals try (refine Or.inl ?_; conv => whnf)
  all_goals try (exfalso; simp only [decide_eq_true_eq, decide_eq_false_iff_not, Bool.not_eq_true', Bool.not_eq_false', Bool.not_eq_true, Bool.not_eq_false, beq_iff_eq, bne_iff_ne, beq_eq_false_iff_ne, bne_eq_false_iff_eq, ne_eq, Decidable.not_not] at *; first | omega | contradiction | (simp_all; done) | (simp_all; omega))
  all_goals refine ⟨[], ?_⟩
  repeat (any_goals (first | exact True.intro | exact rfl | with_reducible_and_instances rfl | exact (by kernel_rfl) | refine And.intro ?_ ?_))
  all_goals conv => whnf
theorem def_ret8' (k a e b c g s n t w : Int) (sr : Ser) (d : Bt) (z u v : AObj) : DefRun Try.prog 32 [.ptr 0 0, .ptr 1 0] .returning .returning
    [.cells [iA k, iA a, iA e, iA b, iA c, iA g, iA s, iA n, iA t, iA w, .d nilV, .d (tD sr.1), .d (.sl 2 (sr.2.map labR)), .d (bsD d)], .cells [iA 0], z, u, v] [.cells [iA k, iA a, iA e, iA b, iA c, iA g, iA s, iA n, iA t, iA w, .d nilV, .d (tD sr.1), .d (.sl 2 (sr.2.map labR)), .d (bsD d)], .cells [iA 0], .dead, .dead, .dead] := by
  refine defRun_of_vc (T := tiOf Try.prog) (E := E0) Try.func32 rfl rfl hE0 hm0 rfl rfl rfl rfl (.inr ⟨rfl, rfl, rfl⟩) rfl ?_
  conv => whnf
  iterate 6
    repeat' (first | exact True.intro | ((first | refine And.intro (fun _ => ?_) tf | refine And.intro ft (fun _ => ?_) | refine And.intro (by kernel_rfl) ?_ | refine And.intro (by decide) ?_ | refine And.intro (fun _ => ?_) (fun h => absurd h (by decide)) | refine And.intro (fun h => absurd h (by decide)) (fun _ => ?_) | refine ⟨_, _, eqNI (by kernel_rfl), ?_⟩ | fail); conv => whnf) | (refine And.intro (fun _ => ?_) (fun _ => ?_) <;> conv => whnf) | fail)
    all_goals try (refine Or.inl ?_; conv => whnf)
  all_goals try (exfalso; simp only [decide_eq_true_eq, decide_eq_false_iff_not, Bool.not_eq_true', Bool.not_eq_false', Bool.not_eq_true, Bool.not_eq_false, beq_iff_eq, bne_iff_ne, beq_eq_false_iff_ne, bne_eq_false_iff_eq, ne_eq, Decidable.not_not] at *; first | omega | contradiction | (simp_all; done) | (simp_all; omega))
  all_goals refine ⟨[], ?_⟩
  repeat (any_goals (first | exact True.intro | exact rfl | with_reducible_and_instances rfl | exact (by kernel_rfl) | refine And.intro ?_ ?_))
  all_goals conv => whnf
set_option maxHeartbeats 8000000 in
theorem parse_5 (l : Bt) (hl : l.length ≤ 65536) (s : Rs) (hu : uintS (l, 0) = (5, s)) (hs : s.2 = 0) : Sat Try.prog 19 [.d (bsD l)] [] (outP 5 (parseK 5 s)) [] := by
  have n1 := newG_sat l hl
  have k1 := kind_ok (l, 0) hl (by rw [hu]; exact hs) (by rw [hu]; exact (by decide : 1 ≤ 5)) (by rw [hu]; exact (by decide : 5 ≤ 8))
  rw [hu] at k1
  have hsl : s.1.length ≤ 65536 := by have := uintS_len (l, 0); rw [hu] at this; exact Nat.le_trans this hl
  have hil : ∀ i, (itS i s).1.length ≤ 65536 := fun i => Nat.le_trans (itS_len s i) hsl
  have f2 := fields_n 5 (by decide) (by decide) 0 0 0 0 0 0 0 0 0
  have c1 := check_ok
  have hpe := fun i => parseK_err (k := 5) (s := s) i
  have hpg := parseK_go (k := 5) (s := s)
  generalize hP : parseK 5 s = PP at *
  refine satD_of_vc (T := tiOf Try.prog) (E := E0) (gc := 32) (ys := [.ptr 0 0, .ptr 1 0]) PnF Try.func19 rfl rfl hE0 hm0 rfl rfl rfl rfl rfl rfl rfl rfl rfl ?_
  conv => whnf
  iterate 5
    repeat' (first | exact True.intro | ((first | refine And.intro (fun _ => ?_) tf | refine And.intro ft (fun _ => ?_) | refine And.intro (by kernel_rfl) ?_ | refine And.intro (by decide) ?_ | refine And.intro (fun _ => ?_) (fun h => absurd h (by decide)) | refine And.intro (fun h => absurd h (by decide)) (fun _ => ?_) | refine ⟨_, _, n1.nw rfl, ?_⟩ | refine ⟨_, _, k1.at1 2 rfl rfl rfl, ?_⟩ | refine ⟨_, _, f2.at1 0 rfl rfl rfl, ?_⟩ | refine ⟨_, _, lenP (by kernel_rfl), ?_⟩ | fail); conv => whnf) | (refine And.intro (fun _ => ?_) (fun _ => ?_) <;> conv => whnf) | fail)
    all_goals try (refine Or.inl ?_; conv => whnf)
  all_goals try (exfalso; simp only [decide_eq_true_eq, decide_eq_false_iff_not, Bool.not_eq_true', Bool.not_eq_false', Bool.not_eq_true, Bool.not_eq_false, beq_iff_eq, bne_iff_ne, beq_eq_false_iff_ne, bne_eq_false_iff_eq, ne_eq, Decidable.not_not] at *; first | omega | contradiction | (simp_all; done) | (simp_all; omega))
  refine ⟨Nat, fun i => i ≤ 3 ∧ (itS i s).2 = 0, fun i => ([(16, iA i), (15, iA 3), (14, .rel 3 (slP 3)), (4, .ptr 2 0), (3, .ptr 1 0), (2, .ptr 0 0)], [.cells (frN 5 (vb 5 i s 1) (vb 5 i s 2) (vb 5 i s 3) (vb 5 i s 4) (vb 5 i s 5) (vb 5 i s 6) (vb 5 i s 7) (vb 5 i s 8) (vb 5 i s 9)), .cells [iA 0], rsO (itS i s), .cells (ptrsK 5)]), fun i => 3 - i, ⟨0, ⟨Nat.zero_le _, hs⟩, ?_⟩, ?_⟩
  · all_goals refine ⟨[], ?_⟩
    repeat (any_goals (first | exact True.intro | exact rfl | with_reducible_and_instances rfl | exact (by kernel_rfl) | refine And.intro ?_ ?_))
    all_goals conv => whnf
  rintro i ⟨hi, hI⟩
  have hi : i ≤ 3 := hi
  obtain rfl | rfl | rfl | rfl : i = 0 ∨ i = 1 ∨ i = 2 ∨ i = 3 := by omega
  · have u1 := uintG_sat (itS 0 s) (hil 0)
    have r1 := errG_sat (itS 1 s)
    conv => whnf
    by_cases he : (itS 1 s).2 = 0
    · rw [he] at r1
      iterate 5
        repeat' (first | exact True.intro | ((first | refine And.intro (fun _ => ?_) tf | refine And.intro ft (fun _ => ?_) | refine And.intro (by kernel_rfl) ?_ | refine And.intro (by decide) ?_ | refine And.intro (fun _ => ?_) (fun h => absurd h (by decide)) | refine And.intro (fun h => absurd h (by decide)) (fun _ => ?_) | refine ⟨_, _, ixP (by kernel_rfl) (by kernel_rfl) (by decide), ?_⟩ | refine ⟨_, _, u1.at1 2 rfl rfl rfl, ?_⟩ | refine ⟨_, _, r1.at1 2 rfl rfl rfl, ?_⟩ | refine ⟨_, _, c1.pu rfl rfl, ?_⟩ | fail); conv => whnf) | (refine And.intro (fun _ => ?_) (fun _ => ?_) <;> conv => whnf) | fail)
        all_goals try (refine Or.inl ?_; conv => whnf)
      refine ⟨1, ⟨by decide, he⟩, by decide, ?_⟩
      all_goals refine ⟨[], ?_⟩
      repeat (any_goals (first | exact True.intro | exact rfl | with_reducible_and_instances rfl | exact (by kernel_rfl) | refine And.intro ?_ ?_))
      all_goals conv => whnf
    · have c2 := check_no ((itS 1 s).2 : Int) (by omega)
      obtain rfl := hpe 1 (by decide) he
      rw [outP_err he]
      iterate 5
        repeat' (first | exact True.intro | ((first | refine Or.inr ⟨_, _, c2.pu rfl rfl, ?_⟩ | refine And.intro (fun _ => ?_) tf | refine And.intro ft (fun _ => ?_) | refine And.intro (by kernel_rfl) ?_ | refine And.intro (by decide) ?_ | refine And.intro (fun _ => ?_) (fun h => absurd h (by decide)) | refine And.intro (fun h => absurd h (by decide)) (fun _ => ?_) | refine ⟨_, _, ixP (by kernel_rfl) (by kernel_rfl) (by decide), ?_⟩ | refine ⟨_, _, u1.at1 2 rfl rfl rfl, ?_⟩ | refine ⟨_, _, r1.at1 2 rfl rfl rfl, ?_⟩ | fail); conv => whnf) | (refine And.intro (fun _ => ?_) (fun _ => ?_) <;> conv => whnf) | fail)
        all_goals try (refine Or.inl ?_; conv => whnf)
      refine ⟨_, def_pan4 _ _ _ _ _ _ _ _ _ _ _ _ _ _ _ _ _, rfl, ?_⟩
      conv => whnf
      all_goals refine ⟨[], ?_⟩
      repeat (any_goals (first | exact True.intro | exact rfl | with_reducible_and_instances rfl | exact (by kernel_rfl) | refine And.intro ?_ ?_))
      all_goals conv => whnf
  · have u1 := uintG_sat (itS 1 s) (hil 1)
    have r1 := errG_sat (itS 2 s)
    conv => whnf
    by_cases he : (itS 2 s).2 = 0
    · rw [he] at r1
      iterate 5
        repeat' (first | exact True.intro | ((first | refine And.intro (fun _ => ?_) tf | refine And.intro ft (fun _ => ?_) | refine And.intro (by kernel_rfl) ?_ | refine And.intro (by decide) ?_ | refine And.intro (fun _ => ?_) (fun h => absurd h (by decide)) | refine And.intro (fun h => absurd h (by decide)) (fun _ => ?_) | refine ⟨_, _, ixP (by kernel_rfl) (by kernel_rfl) (by decide), ?_⟩ | refine ⟨_, _, u1.at1 2 rfl rfl rfl, ?_⟩ | refine ⟨_, _, r1.at1 2 rfl rfl rfl, ?_⟩ | refine ⟨_, _, c1.pu rfl rfl, ?_⟩ | fail); conv => whnf) | (refine And.intro (fun _ => ?_) (fun _ => ?_) <;> conv => whnf) | fail)
        all_goals try (refine Or.inl ?_; conv => whnf)
      refine ⟨2, ⟨by decide, he⟩, by decide, ?_⟩
      all_goals refine ⟨[], ?_⟩
      repeat (any_goals (first | exact True.intro | exact rfl | with_reducible_and_instances rfl | exact (by kernel_rfl) | refine And.intro ?_ ?_))
      all_goals conv => whnf
    · have c2 := check_no ((itS 2 s).2 : Int) (by omega)
      obtain rfl := hpe 2 (by decide) he
      rw [outP_err he]
      iterate 5
        repeat' (first | exact True.intro | ((first | refine Or.inr ⟨_, _, c2.pu rfl rfl, ?_⟩ | refine And.intro (fun _ => ?_) tf | refine And.intro ft (fun _ => ?_) | refine And.intro (by kernel_rfl) ?_ | refine And.intro (by decide) ?_ | refine And.intro (fun _ => ?_) (fun h => absurd h (by decide)) | refine And.intro (fun h => absurd h (by decide)) (fun _ => ?_) | refine ⟨_, _, ixP (by kernel_rfl) (by kernel_rfl) (by decide), ?_⟩ | refine ⟨_, _, u1.at1 2 rfl rfl rfl, ?_⟩ | refine ⟨_, _, r1.at1 2 rfl rfl rfl, ?_⟩ | fail); conv => whnf) | (refine And.intro (fun _ => ?_) (fun _ => ?_) <;> conv => whnf) | fail)
        all_goals try (refine Or.inl ?_; conv => whnf)
      refine ⟨_, def_pan4 _ _ _ _ _ _ _ _ _ _ _ _ _ _ _ _ _, rfl, ?_⟩
      conv => whnf
      all_goals refine ⟨[], ?_⟩
      repeat (any_goals (first | exact True.intro | exact rfl | with_reducible_and_instances rfl | exact (by kernel_rfl) | refine And.intro ?_ ?_))
      all_goals conv => whnf
  · have u1 := uintG_sat (itS 2 s) (hil 2)
    have r1 := errG_sat (itS 3 s)
    conv => whnf
    by_cases he : (itS 3 s).2 = 0
    · rw [he] at r1
      iterate 5
        repeat' (first | exact True.intro | ((first | refine And.intro (fun _ => ?_) tf | refine And.intro ft (fun _ => ?_) | refine And.intro (by kernel_rfl) ?_ | refine And.intro (by decide) ?_ | refine And.intro (fun _ => ?_) (fun h => absurd h (by decide)) | refine And.intro (fun h => absurd h (by decide)) (fun _ => ?_) | refine ⟨_, _, ixP (by kernel_rfl) (by kernel_rfl) (by decide), ?_⟩ | refine ⟨_, _, u1.at1 2 rfl rfl rfl, ?_⟩ | refine ⟨_, _, r1.at1 2 rfl rfl rfl, ?_⟩ | refine ⟨_, _, c1.pu rfl rfl, ?_⟩ | fail); conv => whnf) | (refine And.intro (fun _ => ?_) (fun _ => ?_) <;> conv => whnf) | fail)
        all_goals try (refine Or.inl ?_; conv => whnf)
      refine ⟨3, ⟨by decide, he⟩, by decide, ?_⟩
      all_goals refine ⟨[], ?_⟩
      repeat (any_goals (first | exact True.intro | exact rfl | with_reducible_and_instances rfl | exact (by kernel_rfl) | refine And.intro ?_ ?_))
      all_goals conv => whnf
    · have c2 := check_no ((itS 3 s).2 : Int) (by omega)
      obtain rfl := hpe 3 (by decide) he
      rw [outP_err he]
      iterate 5
        repeat' (first | exact True.intro | ((first | refine Or.inr ⟨_, _, c2.pu rfl rfl, ?_⟩ | refine And.intro (fun _ => ?_) tf | refine And.intro ft (fun _ => ?_) | refine And.intro (by kernel_rfl) ?_ | refine And.intro (by decide) ?_ | refine And.intro (fun _ => ?_) (fun h => absurd h (by decide)) | refine And.intro (fun h => absurd h (by decide)) (fun _ => ?_) | refine ⟨_, _, ixP (by kernel_rfl) (by kernel_rfl) (by decide), ?_⟩ | refine ⟨_, _, u1.at1 2 rfl rfl rfl, ?_⟩ | refine ⟨_, _, r1.at1 2 rfl rfl rfl, ?_⟩ | fail); conv => whnf) | (refine And.intro (fun _ => ?_) (fun _ => ?_) <;> conv => whnf) | fail)
        all_goals try (refine Or.inl ?_; conv => whnf)
      refine ⟨_, def_pan4 _ _ _ _ _ _ _ _ _ _ _ _ _ _ _ _ _, rfl, ?_⟩
      conv => whnf
      all_goals refine ⟨[], ?_⟩
      repeat (any_goals (first | exact True.intro | exact rfl | with_reducible_and_instances rfl | exact (by kernel_rfl) | refine And.intro ?_ ?_))
      all_goals conv => whnf
  have hq := hpg hI
  obtain ⟨re, s9, hev⟩ : ∃ re s9, eventsS (itS 3 s) = (re, s9) := ⟨_, _, rfl⟩
  cases re with
  | error e =>
    have hne := eventsS_err hev
    have v1 := events_err (itS 3 s) (hil 3) hev
    replace hq : PP = (frO, e) := by rw [hq]; unfold tailP; simp only [show (idxK 5).length = 3 from rfl, hev]
    subst hq
    rw [outP_err hne]
    conv => whnf
    iterate 7
      repeat' (first | exact True.intro | ((first | refine Or.inr ⟨_, _, v1.at1 2 rfl rfl rfl, ?_⟩ | refine And.intro (fun _ => ?_) tf | refine And.intro ft (fun _ => ?_) | refine And.intro (by kernel_rfl) ?_ | refine And.intro (by decide) ?_ | refine And.intro (fun _ => ?_) (fun h => absurd h (by decide)) | refine And.intro (fun h => absurd h (by decide)) (fun _ => ?_) | fail); conv => whnf) | (refine And.intro (fun _ => ?_) (fun _ => ?_) <;> conv => whnf) | fail)
      all_goals try (refine Or.inl ?_; conv => whnf)
    refine ⟨_, def_pan4 _ _ _ _ _ _ _ _ _ _ _ _ _ _ _ _ _, rfl, ?_⟩
    conv => whnf
    all_goals refine ⟨[], ?_⟩
    repeat (any_goals (first | exact True.intro | exact rfl | with_reducible_and_instances rfl | exact (by kernel_rfl) | refine And.intro ?_ ?_))
    all_goals conv => whnf
  | ok l5 =>
  have v1 := events_ok (itS 3 s) (hil 3) hev
  obtain ⟨g1, g2⟩ := eventsS_ok hev
  have h9 : s9.1.length ≤ 65536 := by have := eventsS_len (itS 3 s); rw [hev] at this; exact Nat.le_trans this (hil 3)
  replace hq : PP = finP (frS 5 3 s l5 ([], []) []) s9 := by rw [hq]; unfold tailP; simp only [show (idxK 5).length = 3 from rfl, hev]
  have e1 := endG_sat s9 h9
  have hfo := frS_ok 5 3 s (by decide) (ev := l5) (sr := ([], [])) [] (by omega) (fun x hx => by have := g2 x hx; omega) (by simp)
  conv => whnf
  by_cases he : (endS s9).2 = 0
  case neg =>
    have c2 := check_no ((endS s9).2 : Int) (by omega)
    rw [finP_end he] at hq
    subst hq
    rw [outP_err he]
    iterate 7
      repeat' (first | exact True.intro | ((first | refine Or.inr ⟨_, _, c2.pu rfl rfl, ?_⟩ | refine And.intro (fun _ => ?_) tf | refine And.intro ft (fun _ => ?_) | refine And.intro (by kernel_rfl) ?_ | refine And.intro (by decide) ?_ | refine And.intro (fun _ => ?_) (fun h => absurd h (by decide)) | refine And.intro (fun h => absurd h (by decide)) (fun _ => ?_) | refine ⟨_, _, v1.at1 2 rfl rfl rfl, ?_⟩ | refine ⟨_, _, e1.at1 2 rfl rfl rfl, ?_⟩ | refine ⟨_, _, c1.pu rfl rfl, ?_⟩ | fail); conv => whnf) | (refine And.intro (fun _ => ?_) (fun _ => ?_) <;> conv => whnf) | fail)
      all_goals try (refine Or.inl ?_; conv => whnf)
    refine ⟨_, def_pan4 _ _ _ _ _ _ _ _ _ _ _ _ _ _ _ _ _, rfl, ?_⟩
    conv => whnf
    all_goals refine ⟨[], ?_⟩
    repeat (any_goals (first | exact True.intro | exact rfl | with_reducible_and_instances rfl | exact (by kernel_rfl) | refine And.intro ?_ ?_))
    all_goals conv => whnf
  rw [he] at e1
  have r1 := right_pre (frS 5 3 s l5 ([], []) []) hfo (xs := shR 5 ((frS 5 3 s l5 ([], []) []), 0)) (by repeat' (first | exact trivial | refine And.intro ?_ ?_ | exact .inl rfl | exact .inr ⟨rfl, _, rfl⟩))
  cases hr : rightF (frS 5 3 s l5 ([], []) []) with
  | false =>
    rw [hr] at r1
    rw [finP_no he hr] at hq
    subst hq
    rw [outP_err (by decide)]
    iterate 7
      repeat' (first | exact True.intro | ((first | refine And.intro (fun _ => ?_) tf | refine And.intro ft (fun _ => ?_) | refine And.intro (by kernel_rfl) ?_ | refine And.intro (by decide) ?_ | refine And.intro (fun _ => ?_) (fun h => absurd h (by decide)) | refine And.intro (fun h => absurd h (by decide)) (fun _ => ?_) | refine ⟨_, _, v1.at1 2 rfl rfl rfl, ?_⟩ | refine ⟨_, _, e1.at1 2 rfl rfl rfl, ?_⟩ | refine ⟨_, _, c1.pu rfl rfl, ?_⟩ | refine ⟨_, _, r1.pu rfl rfl, ?_⟩ | refine ⟨_, _, mkI 10, ?_⟩ | fail); conv => whnf) | (refine And.intro (fun _ => ?_) (fun _ => ?_) <;> conv => whnf) | fail)
      all_goals try (refine Or.inl ?_; conv => whnf)
    refine ⟨_, def_pan4 _ _ _ _ _ _ _ _ _ _ _ _ _ _ _ _ _, rfl, ?_⟩
    conv => whnf
    all_goals refine ⟨[], ?_⟩
    repeat (any_goals (first | exact True.intro | exact rfl | with_reducible_and_instances rfl | exact (by kernel_rfl) | refine And.intro ?_ ?_))
    all_goals conv => whnf
  | true =>
    rw [hr] at r1
    rw [finP_ok he hr] at hq
    subst hq
    iterate 7
      repeat' (first | exact True.intro | ((first | refine And.intro (fun _ => ?_) tf | refine And.intro ft (fun _ => ?_) | refine And.intro (by kernel_rfl) ?_ | refine And.intro (by decide) ?_ | refine And.intro (fun _ => ?_) (fun h => absurd h (by decide)) | refine And.intro (fun h => absurd h (by decide)) (fun _ => ?_) | refine ⟨_, _, v1.at1 2 rfl rfl rfl, ?_⟩ | refine ⟨_, _, e1.at1 2 rfl rfl rfl, ?_⟩ | refine ⟨_, _, c1.pu rfl rfl, ?_⟩ | refine ⟨_, _, r1.pu rfl rfl, ?_⟩ | fail); conv => whnf) | (refine And.intro (fun _ => ?_) (fun _ => ?_) <;> conv => whnf) | fail)
      all_goals try (refine Or.inl ?_; conv => whnf)
    refine ⟨_, def_ret5 _ _ _ _ _ _ _ _ _ _ _ _ _, rfl, ?_⟩
    conv => whnf
    all_goals refine ⟨[], ?_⟩
    repeat (any_goals (first | exact True.intro | exact rfl | with_reducible_and_instances rfl | exact (by kernel_rfl) | refine And.intro ?_ ?_))
    all_goals conv => whnf
set_option maxHeartbeats 8000000 in
theorem parse_8 (l : Bt) (hl : l.length ≤ 65536) (s : Rs) (hu : uintS (l, 0) = (8, s)) (hs : s.2 = 0) : Sat Try.prog 19 [.d (bsD l)] [] (outP 8 (parseK 8 s)) [] := by
  have n1 := newG_sat l hl
  have k1 := kind_ok (l, 0) hl (by rw [hu]; exact hs) (by rw [hu]; exact (by decide : 1 ≤ 8)) (by rw [hu]; exact (by decide : 8 ≤ 8))
  rw [hu] at k1
  have hsl : s.1.length ≤ 65536 := by have := uintS_len (l, 0); rw [hu] at this; exact Nat.le_trans this hl
  have hil : ∀ i, (itS i s).1.length ≤ 65536 := fun i => Nat.le_trans (itS_len s i) hsl
  have f2 := fields_n 8 (by decide) (by decide) 0 0 0 0 0 0 0 0 0
  have c1 := check_ok
  have hpe := fun i => parseK_err (k := 8) (s := s) i
  have hpg := parseK_go (k := 8) (s := s)
  generalize hP : parseK 8 s = PP at *
  refine satD_of_vc (T := tiOf Try.prog) (E := E0) (gc := 32) (ys := [.ptr 0 0, .ptr 1 0]) PnF Try.func19 rfl rfl hE0 hm0 rfl rfl rfl rfl rfl rfl rfl rfl rfl ?_
  conv => whnf
  iterate 5
    repeat' (first | exact True.intro | ((first | refine And.intro (fun _ => ?_) tf | refine And.intro ft (fun _ => ?_) | refine And.intro (by kernel_rfl) ?_ | refine And.intro (by decide) ?_ | refine And.intro (fun _ => ?_) (fun h => absurd h (by decide)) | refine And.intro (fun h => absurd h (by decide)) (fun _ => ?_) | refine ⟨_, _, n1.nw rfl, ?_⟩ | refine ⟨_, _, k1.at1 2 rfl rfl rfl, ?_⟩ | refine ⟨_, _, f2.at1 0 rfl rfl rfl, ?_⟩ | refine ⟨_, _, lenP (by kernel_rfl), ?_⟩ | fail); conv => whnf) | (refine And.intro (fun _ => ?_) (fun _ => ?_) <;> conv => whnf) | fail)
    all_goals try (refine Or.inl ?_; conv => whnf)
  all_goals try (exfalso; simp only [decide_eq_true_eq, decide_eq_false_iff_not, Bool.not_eq_true', Bool.not_eq_false', Bool.not_eq_true, Bool.not_eq_false, beq_iff_eq, bne_iff_ne, beq_eq_false_iff_ne, bne_eq_false_iff_eq, ne_eq, Decidable.not_not] at *; first | omega | contradiction | (simp_all; done) | (simp_all; omega))
  refine ⟨Nat, fun i => i ≤ 1 ∧ (itS i s).2 = 0, fun i => ([(16, iA i), (15, iA 1), (14, .rel 3 (slP 1)), (4, .ptr 2 0), (3, .ptr 1 0), (2, .ptr 0 0)], [.cells (frN 8 (vb 8 i s 1) (vb 8 i s 2) (vb 8 i s 3) (vb 8 i s 4) (vb 8 i s 5) (vb 8 i s 6) (vb 8 i s 7) (vb 8 i s 8) (vb 8 i s 9)), .cells [iA 0], rsO (itS i s), .cells (ptrsK 8)]), fun i => 1 - i, ⟨0, ⟨Nat.zero_le _, hs⟩, ?_⟩, ?_⟩
  · all_goals refine ⟨[], ?_⟩
    repeat (any_goals (first | exact True.intro | exact rfl | with_reducible_and_instances rfl | exact (by kernel_rfl) | refine And.intro ?_ ?_))
    all_goals conv => whnf
  rintro i ⟨hi, hI⟩
  have hi : i ≤ 1 := hi
  obtain rfl | rfl : i = 0 ∨ i = 1 := by omega
  · have u1 := uintG_sat (itS 0 s) (hil 0)
    have r1 := errG_sat (itS 1 s)
    conv => whnf
    by_cases he : (itS 1 s).2 = 0
    · rw [he] at r1
      iterate 5
        repeat' (first | exact True.intro | ((first | refine And.intro (fun _ => ?_) tf | refine And.intro ft (fun _ => ?_) | refine And.intro (by kernel_rfl) ?_ | refine And.intro (by decide) ?_ | refine And.intro (fun _ => ?_) (fun h => absurd h (by decide)) | refine And.intro (fun h => absurd h (by decide)) (fun _ => ?_) | refine ⟨_, _, ixP (by kernel_rfl) (by kernel_rfl) (by decide), ?_⟩ | refine ⟨_, _, u1.at1 2 rfl rfl rfl, ?_⟩ | refine ⟨_, _, r1.at1 2 rfl rfl rfl, ?_⟩ | refine ⟨_, _, c1.pu rfl rfl, ?_⟩ | fail); conv => whnf) | (refine And.intro (fun _ => ?_) (fun _ => ?_) <;> conv => whnf) | fail)
        all_goals try (refine Or.inl ?_; conv => whnf)
      refine ⟨1, ⟨by decide, he⟩, by decide, ?_⟩
      all_goals refine ⟨[], ?_⟩
      repeat (any_goals (first | exact True.intro | exact rfl | with_reducible_and_instances rfl | exact (by kernel_rfl) | refine And.intro ?_ ?_))
      all_goals conv => whnf
    · have c2 := check_no ((itS 1 s).2 : Int) (by omega)
      obtain rfl := hpe 1 (by decide) he
      rw [outP_err he]
      iterate 5
        repeat' (first | exact True.intro | ((first | refine Or.inr ⟨_, _, c2.pu rfl rfl, ?_⟩ | refine And.intro (fun _ => ?_) tf | refine And.intro ft (fun _ => ?_) | refine And.intro (by kernel_rfl) ?_ | refine And.intro (by decide) ?_ | refine And.intro (fun _ => ?_) (fun h => absurd h (by decide)) | refine And.intro (fun h => absurd h (by decide)) (fun _ => ?_) | refine ⟨_, _, ixP (by kernel_rfl) (by kernel_rfl) (by decide), ?_⟩ | refine ⟨_, _, u1.at1 2 rfl rfl rfl, ?_⟩ | refine ⟨_, _, r1.at1 2 rfl rfl rfl, ?_⟩ | fail); conv => whnf) | (refine And.intro (fun _ => ?_) (fun _ => ?_) <;> conv => whnf) | fail)
        all_goals try (refine Or.inl ?_; conv => whnf)
      refine ⟨_, def_pan4 _ _ _ _ _ _ _ _ _ _ _ _ _ _ _ _ _, rfl, ?_⟩
      conv => whnf
      all_goals refine ⟨[], ?_⟩
      repeat (any_goals (first | exact True.intro | exact rfl | with_reducible_and_instances rfl | exact (by kernel_rfl) | refine And.intro ?_ ?_))
      all_goals conv => whnf
  have hq := hpg hI
  have l1 := readS_len (itS 1 s)
  have l2 := hil 1
  have hrl : (readS (itS 1 s)).2.2.1.length ≤ 65536 := by omega
  by_cases hre : (readS (itS 1 s)).2.1 = 0
  case neg =>
    have v1 := ser_err (itS 1 s) (hil 1) hre
    replace hq : PP = (frO, (readS (itS 1 s)).2.1) := by rw [hq]; exact if_pos hre
    subst hq
    rw [outP_err hre]
    conv => whnf
    iterate 7
      repeat' (first | exact True.intro | ((first | refine Or.inr ⟨_, _, v1.at1 2 rfl rfl rfl, ?_⟩ | refine And.intro (fun _ => ?_) tf | refine And.intro ft (fun _ => ?_) | refine And.intro (by kernel_rfl) ?_ | refine And.intro (by decide) ?_ | refine And.intro (fun _ => ?_) (fun h => absurd h (by decide)) | refine And.intro (fun h => absurd h (by decide)) (fun _ => ?_) | fail); conv => whnf) | (refine And.intro (fun _ => ?_) (fun _ => ?_) <;> conv => whnf) | fail)
      all_goals try (refine Or.inl ?_; conv => whnf)
    refine ⟨_, def_pan4 _ _ _ _ _ _ _ _ _ _ _ _ _ _ _ _ _, rfl, ?_⟩
    conv => whnf
    all_goals refine ⟨[], ?_⟩
    repeat (any_goals (first | exact True.intro | exact rfl | with_reducible_and_instances rfl | exact (by kernel_rfl) | refine And.intro ?_ ?_))
    all_goals conv => whnf
  have v1 := ser_ok (itS 1 s) (hil 1) hre
  have v2 := txtG_sat (readS (itS 1 s)).2.2 4096 m4096 hrl
  have l3 := txtS_txt (readS (itS 1 s)).2.2 4096
  have l4 := txtS_len (readS (itS 1 s)).2.2 4096
  have l5 := readS_labs (itS 1 s)
  have r9 := errG_sat (txtS (readS (itS 1 s)).2.2 4096).2
  replace hq : PP = if (txtS (readS (itS 1 s)).2.2 4096).2.2 ≠ 0 then (frO, (txtS (readS (itS 1 s)).2.2 4096).2.2) else finP (frS 8 1 s [] (readS (itS 1 s)).1 (txtS (readS (itS 1 s)).2.2 4096).1) (txtS (readS (itS 1 s)).2.2 4096).2 := by
    rw [hq]
    exact if_neg fun h => h hre
  generalize readS (itS 1 s) = rr at *
  obtain ⟨sr, er, s8⟩ := rr
  simp only at v1 v2 l3 l4 l5 r9 hq hrl
  generalize txtS s8 4096 = tt at *
  obtain ⟨d8, s9⟩ := tt
  simp only at v2 l3 l4 r9 hq
  have hd8 : d8.length ≤ 65536 := by omega
  have h9 : s9.1.length ≤ 65536 := by omega
  by_cases hte : s9.2 = 0
  case neg =>
    have c2 := check_no (s9.2 : Int) (by omega)
    rw [if_pos hte] at hq
    subst hq
    rw [outP_err hte]
    conv => whnf
    iterate 7
      repeat' (first | exact True.intro | ((first | refine Or.inr ⟨_, _, c2.pu rfl rfl, ?_⟩ | refine And.intro (fun _ => ?_) tf | refine And.intro ft (fun _ => ?_) | refine And.intro (by kernel_rfl) ?_ | refine And.intro (by decide) ?_ | refine And.intro (fun _ => ?_) (fun h => absurd h (by decide)) | refine And.intro (fun h => absurd h (by decide)) (fun _ => ?_) | refine ⟨_, _, v1.at1 2 rfl rfl rfl, ?_⟩ | refine ⟨_, _, v2.at1 2 rfl rfl rfl, ?_⟩ | refine ⟨_, _, bytes_z d8 hd8, ?_⟩ | refine ⟨_, _, r9.at1 2 rfl rfl rfl, ?_⟩ | fail); conv => whnf) | (refine And.intro (fun _ => ?_) (fun _ => ?_) <;> conv => whnf) | fail)
      all_goals try (refine Or.inl ?_; conv => whnf)
    refine ⟨_, def_pan5 _ _ _ _ _ _ _ _ _ _ _ _ _ _ _ _ _ _, rfl, ?_⟩
    conv => whnf
    all_goals refine ⟨[], ?_⟩
    repeat (any_goals (first | exact True.intro | exact rfl | with_reducible_and_instances rfl | exact (by kernel_rfl) | refine And.intro ?_ ?_))
    all_goals conv => whnf
  rw [if_neg (by omega)] at hq
  rw [hte] at r9
  have e1 := endG_sat s9 h9
  have hfo := frS_ok 8 1 s (by decide) (ev := []) (sr := sr) d8 (by simp) (by simp) (by omega)
  conv => whnf
  by_cases he : (endS s9).2 = 0
  case neg =>
    have c2 := check_no ((endS s9).2 : Int) (by omega)
    rw [finP_end he] at hq
    subst hq
    rw [outP_err he]
    iterate 7
      repeat' (first | exact True.intro | ((first | refine Or.inr ⟨_, _, c2.pu rfl rfl, ?_⟩ | refine And.intro (fun _ => ?_) tf | refine And.intro ft (fun _ => ?_) | refine And.intro (by kernel_rfl) ?_ | refine And.intro (by decide) ?_ | refine And.intro (fun _ => ?_) (fun h => absurd h (by decide)) | refine And.intro (fun h => absurd h (by decide)) (fun _ => ?_) | refine ⟨_, _, v1.at1 2 rfl rfl rfl, ?_⟩ | refine ⟨_, _, v2.at1 2 rfl rfl rfl, ?_⟩ | refine ⟨_, _, bytes_z d8 hd8, ?_⟩ | refine ⟨_, _, r9.at1 2 rfl rfl rfl, ?_⟩ | refine ⟨_, _, e1.at1 2 rfl rfl rfl, ?_⟩ | refine ⟨_, _, c1.pu rfl rfl, ?_⟩ | fail); conv => whnf) | (refine And.intro (fun _ => ?_) (fun _ => ?_) <;> conv => whnf) | fail)
      all_goals try (refine Or.inl ?_; conv => whnf)
    refine ⟨_, def_pan5 _ _ _ _ _ _ _ _ _ _ _ _ _ _ _ _ _ _, rfl, ?_⟩
    conv => whnf
    all_goals refine ⟨[], ?_⟩
    repeat (any_goals (first | exact True.intro | exact rfl | with_reducible_and_instances rfl | exact (by kernel_rfl) | refine And.intro ?_ ?_))
    all_goals conv => whnf
  rw [he] at e1
  have r1 := right_pre (frS 8 1 s [] sr d8) hfo (xs := shR 8 ((frS 8 1 s [] sr d8), 0)) (by repeat' (first | exact trivial | refine And.intro ?_ ?_ | exact .inl rfl | exact .inr ⟨rfl, _, rfl⟩))
  cases hr : rightF (frS 8 1 s [] sr d8) with
  | false =>
    rw [hr] at r1
    rw [finP_no he hr] at hq
    subst hq
    rw [outP_err (by decide)]
    iterate 7
      repeat' (first | exact True.intro | ((first | refine And.intro (fun _ => ?_) tf | refine And.intro ft (fun _ => ?_) | refine And.intro (by kernel_rfl) ?_ | refine And.intro (by decide) ?_ | refine And.intro (fun _ => ?_) (fun h => absurd h (by decide)) | refine And.intro (fun h => absurd h (by decide)) (fun _ => ?_) | refine ⟨_, _, v1.at1 2 rfl rfl rfl, ?_⟩ | refine ⟨_, _, v2.at1 2 rfl rfl rfl, ?_⟩ | refine ⟨_, _, bytes_z d8 hd8, ?_⟩ | refine ⟨_, _, r9.at1 2 rfl rfl rfl, ?_⟩ | refine ⟨_, _, e1.at1 2 rfl rfl rfl, ?_⟩ | refine ⟨_, _, c1.pu rfl rfl, ?_⟩ | refine ⟨_, _, r1.pu rfl rfl, ?_⟩ | refine ⟨_, _, mkI 10, ?_⟩ | fail); conv => whnf) | (refine And.intro (fun _ => ?_) (fun _ => ?_) <;> conv => whnf) | fail)
      all_goals try (refine Or.inl ?_; conv => whnf)
    refine ⟨_, def_pan5 _ _ _ _ _ _ _ _ _ _ _ _ _ _ _ _ _ _, rfl, ?_⟩
    conv => whnf
    all_goals refine ⟨[], ?_⟩
    repeat (any_goals (first | exact True.intro | exact rfl | with_reducible_and_instances rfl | exact (by kernel_rfl) | refine And.intro ?_ ?_))
    all_goals conv => whnf
  | true =>
    rw [hr] at r1
    rw [finP_ok he hr] at hq
    subst hq
    iterate 7
      repeat' (first | exact True.intro | ((first | refine And.intro (fun _ => ?_) tf | refine And.intro ft (fun _ => ?_) | refine And.intro (by kernel_rfl) ?_ | refine And.intro (by decide) ?_ | refine And.intro (fun _ => ?_) (fun h => absurd h (by decide)) | refine And.intro (fun h => absurd h (by decide)) (fun _ => ?_) | refine ⟨_, _, v1.at1 2 rfl rfl rfl, ?_⟩ | refine ⟨_, _, v2.at1 2 rfl rfl rfl, ?_⟩ | refine ⟨_, _, bytes_z d8 hd8, ?_⟩ | refine ⟨_, _, r9.at1 2 rfl rfl rfl, ?_⟩ | refine ⟨_, _, e1.at1 2 rfl rfl rfl, ?_⟩ | refine ⟨_, _, c1.pu rfl rfl, ?_⟩ | refine ⟨_, _, r1.pu rfl rfl, ?_⟩ | fail); conv => whnf) | (refine And.intro (fun _ => ?_) (fun _ => ?_) <;> conv => whnf) | fail)
      all_goals try (refine Or.inl ?_; conv => whnf)
    refine ⟨_, def_ret8' _ _ _ _ _ _ _ _ _ _ _ _ _ _ _, rfl, ?_⟩
    conv => whnf
    all_goals refine ⟨[], ?_⟩
    repeat (any_goals (first | exact True.intro | exact rfl | with_reducible_and_instances rfl | exact (by kernel_rfl) | refine And.intro ?_ ?_))
    all_goals conv => whnf
end Go.Proofs.Ytfbfpnfgabamfaa
/- frame: parse and Decode, of any bytes. -/
namespace Go.Proofs.Ytfbfpnfgabamfaa
set_option linter.unusedSimpArgs false
open Go.RowKit
set_option maxRecDepth 100000
set_option linter.unusedVariables false
theorem Sat.weakR {P : Program} {g : FuncId} {args : List AV} {H H' : List AObj} {xs ys : List D} {r : AV} (h : Sat P g args H (.tup [.d (.agg xs), r]) H') (hn : nilLe xs ys) : Sat P g args H (.tup [.d (.agg ys), r]) H' := by
  intro F ρ w vals En hv
  refine (h F ρ w vals En hv).mono ?_
  rintro e w' ⟨v, rfl, F', ρ', S, K, E, R⟩
  cases R with | tup R =>
  cases R with | cons h1 h2 =>
  cases h1 with | d h1 => exact ⟨_, rfl, F', ρ', S, K, E, .tup (.cons (.d (h1.nilLe hn)) h2)⟩
theorem finP_cases (f : Fr) (s : Rs) : finP f s = (f, 0) ∨ ∃ e, e ≠ 0 ∧ finP f s = (frO, e) := by
  unfold finP
  split
  · rename_i h; exact .inr ⟨_, h, rfl⟩
  · split
    · exact .inl rfl
    · exact .inr ⟨10, by decide, rfl⟩
/-- Which frames parse tells. -/
def shapeF (k : Nat) (f : Fr) : Prop := (k ≠ 5 → f.ev = []) ∧ (k ≠ 8 → f.sr = ([], []) ∧ f.d = [])
theorem tailP_cases (k : Nat) (s s1 : Rs) : (∃ f, tailP k s s1 = (f, 0) ∧ shapeF k f) ∨ ∃ e, e ≠ 0 ∧ tailP k s s1 = (frO, e) := by
  unfold tailP
  split
  · cases h : eventsS s1 with
    | mk r s9 =>
      cases r with
      | error e => exact .inr ⟨e, eventsS_err h, rfl⟩
      | ok l => exact (finP_cases (frS 5 3 s l ([], []) []) s9).elim (fun h => .inl ⟨_, h, fun h => absurd rfl h, fun _ => ⟨rfl, rfl⟩⟩) .inr
  · split
    · rename_i h; exact .inr ⟨_, h, rfl⟩
    · split
      · rename_i h; exact .inr ⟨_, h, rfl⟩
      · exact (finP_cases _ _).elim (fun h => .inl ⟨_, h, fun _ => rfl, fun h => absurd rfl h⟩) .inr
  · exact (finP_cases _ _).elim (fun h => .inl ⟨_, h, fun _ => rfl, fun _ => ⟨rfl, rfl⟩⟩) .inr
theorem parseK_cases (k : Nat) (s : Rs) : (∃ f, parseK k s = (f, 0) ∧ shapeF k f) ∨ ∃ e, e ≠ 0 ∧ parseK k s = (frO, e) := by
  unfold parseK
  split
  · rename_i h; exact .inr ⟨_, h, rfl⟩
  · exact tailP_cases _ _ _
theorem nil_frO : nilLe (nilR frO) (frR frO) := by
  repeat' (first | exact trivial | refine And.intro ?_ ?_ | exact .inl rfl | exact .inr ⟨rfl, _, rfl⟩)
theorem shR_le (k : Nat) (s : Rs) : nilLe (shR k (parseK k s)) (frR (parseK k s).1) := by
  rcases parseK_cases k s with ⟨f, h, h5, h8⟩ | ⟨e, he, h⟩
  · rw [h]
    obtain ⟨kk, a, e, b, c, g, s, n, t, w, ev, sr, d⟩ := f
    unfold shR
    rw [if_neg (by simp)]
    split
    · obtain ⟨rfl, rfl⟩ := h8 (by decide)
      repeat' (first | exact trivial | refine And.intro ?_ ?_ | exact .inl rfl | exact .inr ⟨rfl, _, rfl⟩)
    · have h5 := h5 (by decide)
      simp only at h5
      subst h5
      repeat' (first | exact trivial | refine And.intro ?_ ?_ | exact .inl rfl | exact .inr ⟨rfl, _, rfl⟩)
    · rename_i n5 n8
      have h5 := h5 n5
      simp only at h5
      subst h5
      obtain ⟨rfl, rfl⟩ := h8 n8
      repeat' (first | exact trivial | refine And.intro ?_ ?_ | exact .inl rfl | exact .inr ⟨rfl, _, rfl⟩)
  · rw [h]
    unfold shR
    rw [if_pos he]
    exact nil_frO
theorem parse_sat (l : Bt) (hl : l.length ≤ 65536) : Sat Try.prog 19 [.d (bsD l)] [] (.tup [.d (frD (parseF l).1), iA (parseF l).2]) [] := by
  unfold parseF
  by_cases h0 : (uintS (l, 0)).2.2 = 0
  case neg =>
    rw [if_pos h0]
    exact (parse_kerr l hl h0).weakR nil_frO
  rw [if_neg (fun h => h h0)]
  by_cases h1 : (uintS (l, 0)).1 < 1 ∨ 8 < (uintS (l, 0)).1
  · rw [if_pos h1]
    exact (parse_kbad l hl h0 h1).weakR nil_frO
  · rw [if_neg h1]
    obtain ⟨k, s, hu⟩ : ∃ k s, uintS (l, 0) = (k, s) := ⟨_, _, rfl⟩
    rw [hu] at h0 h1 ⊢
    simp only at h0 h1
    have hk : k = 1 ∨ k = 2 ∨ k = 3 ∨ k = 4 ∨ k = 5 ∨ k = 6 ∨ k = 7 ∨ k = 8 := by omega
    refine Sat.weakR (xs := shR k (parseK k s)) ?_ (shR_le k s)
    rcases hk with rfl | rfl | rfl | rfl | rfl | rfl | rfl | rfl
    · exact parse_1 l hl s hu h0
    · exact parse_2 l hl s hu h0
    · exact parse_3 l hl s hu h0
    · exact parse_4 l hl s hu h0
    · exact parse_5 l hl s hu h0
    · exact parse_6 l hl s hu h0
    · exact parse_7 l hl s hu h0
    · exact parse_8 l hl s hu h0
/-! ### Decode -/
def decodeF (l : Bt) : Fr × Nat := if 65536 < l.length then (frO, 17) else if openErr l ≠ 0 then (frO, (openErr l).toNat) else parseF (openBody l)
theorem openErr_nn (l : Bt) : 0 ≤ openErr l := by
  unfold openErr
  split
  · decide
  · split <;> decide
theorem openBody_len (l : Bt) : (openBody l).length ≤ l.length := by
  unfold openBody
  split
  · rw [List.length_take]; omega
  · exact Nat.zero_le _
end Go.Proofs.Ytfbfpnfgabamfaa
/- frame, plain: what parse tells is what was written. -/
namespace Go.Proofs.Ytfbfpnfgabamfaa
set_option linter.unusedSimpArgs false
open Go.RowKit
set_option maxRecDepth 100000
set_option linter.unusedVariables false
theorem dec_back {l : Bt} {v s : Nat} (h : dec l = (v, s, 0)) : l = enc v ++ l.drop s := by
  obtain ⟨u, h1, h2, h3, h4, h5, h6, h7⟩ := enc_of_dec l 0 0 v s (by omega) h
  have hv : v = u := by simpa using h1
  subst hv
  have : enc v = l.take s := h5
  rw [this, List.take_append_drop]
theorem uintS_zero {s : Rs} (h : (uintS s).2.2 = 0) : s.2 = 0 ∧ s.1 = enc (uintS s).1 ++ (uintS s).2.1 := by
  unfold uintS at h ⊢
  by_cases h1 : s.2 = 0
  · rw [if_neg (fun q => q h1)] at h ⊢
    by_cases h2 : (dec s.1).2.2 = 0
    · rw [if_neg (fun q => q h2)]
      exact ⟨h1, dec_back (s := (dec s.1).2.1) (v := (dec s.1).1) (by rw [← h2])⟩
    · rw [if_pos h2] at h
      exact absurd h h2
  · rw [if_pos h1] at h
    exact absurd h h1
theorem intS_zero {s : Rs} (h : (intS s).2.2 = 0) : s.2 = 0 ∧ s.1 = enc (turnN (intS s).1) ++ (intS s).2.1 := by
  have := uintS_zero h
  unfold intS
  rw [turn_unturn]
  exact this
theorem cnt_back {l : Bt} {m : Int} (h : (cnt l m).2.2 = 0) : l = enc (cnt l m).1 ++ l.drop (cnt l m).2.1 := by
  unfold cnt at h ⊢
  by_cases h1 : (dec l).2.2 = 0
  · rw [if_neg (fun q => q h1)] at h ⊢
    by_cases h2 : max m 0 < ((dec l).1 : Int)
    · rw [if_pos h2] at h
      cases h
    · rw [if_neg h2]
      exact dec_back (s := (dec l).2.1) (v := (dec l).1) (by rw [← h1])
  · rw [if_pos h1] at h
    exact absurd h h1
theorem countS_zero {s : Rs} {m : Int} (h : (countS s m).2.2 = 0) : s.2 = 0 ∧ s.1 = enc (countS s m).1 ++ (countS s m).2.1 := by
  unfold countS at h ⊢
  by_cases h1 : s.2 = 0
  · rw [if_neg (fun q => q h1)] at h ⊢
    by_cases h2 : (cnt s.1 m).2.2 = 0
    · rw [if_neg (fun q => q h2)]
      exact ⟨h1, cnt_back h2⟩
    · rw [if_pos h2] at h
      exact absurd h h2
  · rw [if_pos h1] at h
    exact absurd h h1
theorem txtS_zero {s : Rs} {m : Int} (h : (txtS s m).2.2 = 0) : s.2 = 0 ∧ s.1 = encTL (txtS s m).1 ++ (txtS s m).2.1 := by
  unfold txtS at h ⊢
  by_cases h1 : s.2 = 0
  · rw [if_neg (fun q => q h1)] at h ⊢
    by_cases h2 : (cnt s.1 m).2.2 = 0
    · rw [if_neg (fun q => q h2)] at h ⊢
      by_cases h3 : s.1.length - (cnt s.1 m).2.1 < (cnt s.1 m).1
      · rw [if_pos h3] at h
        cases h
      · rw [if_neg h3]
        refine ⟨h1, ?_⟩
        have hb := cnt_back h2
        have hbd := (cnt_bounds s.1 m).2.1
        generalize (cnt s.1 m).1 = n at *
        generalize (cnt s.1 m).2.1 = z at *
        simp only
        unfold encTL
        have e1 : ((s.1.take (z + n)).drop z) = (s.1.drop z).take n := by rw [List.drop_take]; congr 1; omega
        have e2 : s.1.drop (z + n) = (s.1.drop z).drop n := by rw [List.drop_drop]
        have e3 : ((s.1.drop z).take n).length = n := by rw [List.length_take, List.length_drop]; omega
        rw [e1, e2, e3, List.append_assoc, List.take_append_drop]
        exact hb
    · rw [if_pos h2] at h
      exact absurd h h2
  · rw [if_pos h1] at h
    exact absurd h h1
theorem labsS_zero : ∀ (n : Nat) (acc : List Lab) (s : Rs), (labsS n acc s).2.2 = 0 → s.2 = 0 ∧ ∃ new, (labsS n acc s).1 = acc ++ new ∧ new.length = n ∧ s.1 = labsT new ++ (labsS n acc s).2.1
  | 0, acc, s, h => ⟨h, [], by simp [labsS], rfl, by simp [labsS, labsT]⟩
  | n + 1, acc, s, h => by
    rw [labsS] at h ⊢
    obtain ⟨h1, new, h2, h3, h4⟩ := labsS_zero n _ _ h
    obtain ⟨g1, g2⟩ := txtS_zero h1
    obtain ⟨k1, k2⟩ := txtS_zero g1
    refine ⟨k1, ((txtS s 64).1, (txtS (txtS s 64).2 64).1) :: new, by rw [h2]; simp, by simp [h3], ?_⟩
    show s.1 = (encTL (txtS s 64).1 ++ encTL (txtS (txtS s 64).2 64).1 ++ labsT new) ++ _
    rw [List.append_assoc, List.append_assoc, ← h4, ← g2]
    exact k2
theorem readS_zero {s : Rs} (h : (readS s).2.1 = 0) : s.2 = 0 ∧ s.1 = bytesS (readS s).1 ++ (readS s).2.2.1 ∧ rightB (readS s).1 = true := by
  unfold readS at h ⊢
  simp only at h ⊢
  generalize hq : labsS (countS (txtS s 64).2 8).1 [] (countS (txtS s 64).2 8).2 = q at *
  by_cases h1 : q.2.2 = 0
  · rw [if_neg (fun z => z h1)] at h ⊢
    by_cases h2 : rightB ((txtS s 64).1, q.1) = true
    · rw [if_pos h2]
      obtain ⟨g1, new, g2, g3, g4⟩ := labsS_zero _ _ _ (by rw [hq]; exact h1)
      rw [hq] at g2 g4
      obtain ⟨k1, k2⟩ := countS_zero g1
      obtain ⟨j1, j2⟩ := txtS_zero k1
      have hnew : q.1 = new := by rw [g2]; rfl
      refine ⟨j1, ?_, h2⟩
      unfold bytesS
      rw [if_pos h2]
      simp only
      rw [hnew, g3, List.append_assoc, List.append_assoc, ← g4, ← k2]
      exact j2
    · rw [if_neg h2] at h
      cases h
  · rw [if_pos h1] at h
    exact absurd h h1
theorem wrap_nn {u : Nat} (hu : u < 18446744073709551616) (h : 0 ≤ IntKind.i64.wrap (u : Int)) : (IntKind.i64.wrap (u : Int)).toNat = u := by
  rw [IntKind.wrap_i64] at h ⊢
  omega
theorem evS_zero {l : List Evt} {s9 : Rs} : ∀ (n : Nat) (acc : List Evt) (s : Rs), evS n acc s = (.ok l, s9) → (∀ x ∈ l, 0 ≤ x.1) → ∃ new, l = acc ++ new ∧ new.length = n ∧ s.1 = evsT new ++ s9.1 ∧ (s9.2 = 0 → s.2 = 0)
  | 0, acc, s, h, _ => by
    injection h with h1 h2
    injection h1 with h1
    subst h1; subst h2
    exact ⟨[], by simp, rfl, by simp [evsT], id⟩
  | n + 1, acc, s, h, hp => by
    rw [evS] at h
    split at h
    · injection h with h1 h2
      cases h1
    · rename_i hne
      have hne : (readS (intS (uintS s).2).2).2.1 = 0 := by
        rcases Nat.eq_zero_or_pos (readS (intS (uintS s).2).2).2.1 with q | q
        · exact q
        · exact absurd (by omega) hne
      obtain ⟨new, h2, h3, h4, h5⟩ := evS_zero n _ _ h hp
      obtain ⟨r1, r2, r3⟩ := readS_zero hne
      obtain ⟨i1, i2⟩ := intS_zero r1
      obtain ⟨u1, u2⟩ := uintS_zero i1
      refine ⟨(stampZ (uintS s).1, (intS (uintS s).2).1, (readS (intS (uintS s).2).2).1) :: new, by rw [h2]; simp, by simp [h3], ?_, fun _ => u1⟩
      have hx : 0 ≤ stampZ (uintS s).1 := hp (stampZ (uintS s).1, (intS (uintS s).2).1, (readS (intS (uintS s).2).2).1) (by rw [h2]; simp)
      have e : (stampZ (uintS s).1).toNat = (uintS s).1 := wrap_nn (uintS_lt s) hx
      show s.1 = ((enc (stampZ (uintS s).1).toNat ++ (enc (turnN (intS (uintS s).2).1) ++ bytesS (readS (intS (uintS s).2).2).1)) ++ evsT new) ++ s9.1
      rw [e, List.append_assoc, List.append_assoc, List.append_assoc, ← h4, ← r2, ← i2]
      exact u2
theorem eventsS_zero {l : List Evt} {s s9 : Rs} (h : eventsS s = (.ok l, s9)) (hp : ∀ x ∈ l, 0 ≤ x.1) : s.1 = (enc l.length ++ evsT l) ++ s9.1 ∧ (s9.2 = 0 → s.2 = 0) := by
  unfold eventsS at h
  split at h
  · injection h with h1 h2
    cases h1
  · obtain ⟨new, h2, h3, h4, h5⟩ := evS_zero _ _ _ h hp
    rename_i hne
    have hne : (countS s 64).2.2 = 0 := by
      rcases Nat.eq_zero_or_pos (countS s 64).2.2 with q | q
      · exact q
      · exact absurd (by omega) hne
    obtain ⟨c1, c2⟩ := countS_zero hne
    have hl : l = new := by rw [h2]; rfl
    refine ⟨?_, fun _ => c1⟩
    rw [hl, h3, List.append_assoc, ← h4]
    exact c2
theorem itS_zero {s : Rs} : ∀ m, (itS m s).2 = 0 → (∀ i, i < m → 0 ≤ vlS i s) → s.2 = 0 ∧ s.1 = fldT ((List.range m).map fun i => vlS i s) ++ (itS m s).1
  | 0, h, _ => ⟨h, by simp [fldT, itS]⟩
  | m + 1, h, hp => by
    obtain ⟨u1, u2⟩ := uintS_zero (s := itS m s) h
    obtain ⟨h1, h2⟩ := itS_zero m u1 fun i hi => hp i (by omega)
    refine ⟨h1, ?_⟩
    have e : (vlS m s).toNat = (uintS (itS m s)).1 := wrap_nn (uintS_lt _) (hp m (by omega))
    rw [List.range_succ, List.map_append, h2]
    unfold fldT
    rw [List.map_append, List.flatten_append, List.append_assoc]
    congr 1
    simp only [List.map_cons, List.map_nil, List.flatten_cons, List.flatten_nil, List.append_nil]
    rw [e]
    exact u2
theorem endS_zero {s : Rs} (h : (endS s).2 = 0) : s.2 = 0 ∧ s.1 = [] := by
  unfold endS at h
  by_cases h1 : s.2 = 0
  · rw [if_neg (fun q => q h1)] at h
    by_cases h2 : s.1 = []
    · exact ⟨h1, h2⟩
    · rw [if_neg h2] at h
      cases h
  · rw [if_pos h1] at h
    exact absurd h h1
theorem finP_zero {f g : Fr} {s : Rs} (h : finP g s = (f, 0)) : f = g ∧ s.2 = 0 ∧ s.1 = [] ∧ rightF g = true := by
  unfold finP at h
  split at h
  · rename_i q
    injection h with h1 h2
    exact absurd h2 q
  · rename_i q
    split at h
    · rename_i r
      injection h with h1 h2
      obtain ⟨e1, e2⟩ := endS_zero (s := s) (by
        rcases Nat.eq_zero_or_pos (endS s).2 with z | z
        · exact z
        · exact absurd (by omega) q)
      exact ⟨h1.symm, e1, e2, r⟩
    · injection h with h1 h2
      cases h2
theorem vals_frS {k : Nat} (h1 : 1 ≤ k) (h8 : k ≤ 8) (s : Rs) (ev : List Evt) (sr : Ser) (d : Bt) : valsK (frS k (idxK k).length s ev sr d) k = (List.range (idxK k).length).map fun i => vlS i s := by
  have hk : k = 1 ∨ k = 2 ∨ k = 3 ∨ k = 4 ∨ k = 5 ∨ k = 6 ∨ k = 7 ∨ k = 8 := by omega
  rcases hk with rfl | rfl | rfl | rfl | rfl | rfl | rfl | rfl <;> simp [valsK, idxK, frS, getN, List.range, List.range.loop] <;> simp [vb, vbL, idxK] <;> (generalize vlS 0 s = x0 at *; generalize vlS 1 s = x1 at *; generalize vlS 2 s = x2 at *; generalize vlS 3 s = x3 at *; generalize vlS 4 s = x4 at *; generalize vlS 5 s = x5 at *) <;> (repeat' (first | exact rfl | refine And.intro ?_ ?_))
theorem rightF_k {f : Fr} {k : Nat} (hk : f.k = k) (h1 : 1 ≤ k) (h8 : k ≤ 8) (h : rightF f = true) : rightK f k = true := by
  unfold rightF at h
  rw [if_pos (by omega), hk] at h
  exact h
/-- What parse tells of a right frame's numbers. -/
theorem fld_back {k : Nat} (h1 : 1 ≤ k) (h8 : k ≤ 8) {s : Rs} {ev : List Evt} {sr : Ser} {d : Bt} (h : (itS (idxK k).length s).2 = 0) (hr : rightF (frS k (idxK k).length s ev sr d) = true) : s.1 = fldT (valsK (frS k (idxK k).length s ev sr d) k) ++ (itS (idxK k).length s).1 := by
  obtain ⟨q1, q2, q3, q4⟩ := right_parts (rightF_k rfl h1 h8 hr)
  have e := vals_frS h1 h8 s ev sr d
  rw [e] at q2 ⊢
  exact (itS_zero _ h fun i hi => (q2 (vlS i s) (List.mem_map.2 ⟨i, List.mem_range.2 hi, rfl⟩)).1).2
theorem parseK_zero {k : Nat} (h1 : 1 ≤ k) (h8 : k ≤ 8) {s : Rs} {f : Fr} (h : parseK k s = (f, 0)) : f.k = k ∧ rightF f = true ∧ s.1 = fldT (valsK f k) ++ extT f k := by
  unfold parseK at h
  split at h
  · rename_i q
    injection h with g1 g2
    exact absurd g2 q
  rename_i q
  have q : (itS (idxK k).length s).2 = 0 := by
    rcases Nat.eq_zero_or_pos (itS (idxK k).length s).2 with z | z
    · exact z
    · exact absurd (by omega) q
  unfold tailP at h
  split at h
  · split at h
    · rename_i he
      injection h with g1 g2
      exact absurd g2 (eventsS_err he)
    · rename_i l s2 he
      obtain ⟨rfl, e1, e2, hr⟩ := finP_zero h
      have hk := rightF_k (k := 5) rfl (by decide) (by decide) hr
      obtain ⟨p1, p2, p3, p4⟩ := right_parts hk
      have p3 : batchB (frS 5 3 s l ([], []) []).n l = true := p3
      simp only [batchB, Bool.and_eq_true] at p3
      have hp : ∀ x ∈ l, 0 ≤ x.1 := fun x hx => by
        have := List.all_eq_true.1 p3.2.2.2 x hx
        simp only [evOk, Bool.and_eq_true] at this
        exact (rngB_iff.1 this.1).1
      obtain ⟨z1, z2⟩ := eventsS_zero he hp
      refine ⟨rfl, hr, ?_⟩
      have hb := fld_back (k := 5) (by decide) (by decide) (ev := l) (sr := ([], [])) (d := []) q hr
      rw [hb, z1, e2, List.append_nil]
      rfl
  · split at h
    · rename_i he
      injection h with g1 g2
      exact absurd g2 he
    · rename_i he
      split at h
      · rename_i ht
        injection h with g1 g2
        exact absurd g2 ht
      · rename_i ht
        obtain ⟨rfl, e1, e2, hr⟩ := finP_zero h
        have he : (readS (itS (idxK 8).length s)).2.1 = 0 := by
          rcases Nat.eq_zero_or_pos (readS (itS (idxK 8).length s)).2.1 with z | z
          · exact z
          · exact absurd (by omega) he
        obtain ⟨r1, r2, r3⟩ := readS_zero he
        obtain ⟨t1, t2⟩ := txtS_zero e1
        refine ⟨rfl, hr, ?_⟩
        have hb := fld_back (k := 8) (by decide) (by decide) (ev := []) (sr := (readS (itS (idxK 8).length s)).1) (d := (txtS (readS (itS (idxK 8).length s)).2.2 4096).1) q hr
        rw [hb, r2, t2, e2, List.append_nil]
        rfl
  · rename_i n5 n8
    obtain ⟨rfl, e1, e2, hr⟩ := finP_zero h
    refine ⟨rfl, hr, ?_⟩
    have hb := fld_back h1 h8 (ev := []) (sr := ([], [])) (d := []) q hr
    rw [hb, e2]
    unfold extT
    rw [if_neg n5, if_neg n8]
theorem parseF_zero {l : Bt} {f : Fr} (h : parseF l = (f, 0)) : l = frT f f.k.toNat ∧ rightF f = true := by
  unfold parseF at h
  split at h
  · rename_i q
    injection h with g1 g2
    exact absurd g2 q
  rename_i q
  have q : (uintS (l, 0)).2.2 = 0 := by
    rcases Nat.eq_zero_or_pos (uintS (l, 0)).2.2 with z | z
    · exact z
    · exact absurd (by omega) q
  split at h
  · injection h with g1 g2
    cases g2
  rename_i hk
  obtain ⟨u1, u2⟩ := uintS_zero q
  obtain ⟨k1, k2, k3⟩ := parseK_zero (by omega) (by omega) h
  refine ⟨?_, k2⟩
  have e : f.k.toNat = (uintS (l, 0)).1 := by rw [k1]; rfl
  rw [e]
  unfold frT
  rw [List.append_assoc, ← k3]
  exact u2
theorem open_back {l : Bt} (h : openErr l = 0) : l = sealT (openBody l) := by
  unfold openErr at h
  split at h
  · cases h
  · split at h
    · rename_i q
      have ho := of_decide_eq_true q
      unfold openBody sealT
      rw [if_pos q, ← ho.2, List.take_append_drop]
    · cases h
/-- What Decode tells is what was written. -/
theorem decodeF_zero {l : Bt} {f : Fr} (h : decodeF l = (f, 0)) : l = encodeT f ∧ rightF f = true := by
  unfold decodeF at h
  split at h
  · injection h with g1 g2
    cases g2
  split at h
  · rename_i q
    injection h with g1 g2
    have := openErr_nn l
    omega
  · rename_i q
    obtain ⟨p1, p2⟩ := parseF_zero h
    refine ⟨?_, p2⟩
    unfold encodeT
    rw [← p1]
    exact open_back (by have := openErr_nn l; omega)
end Go.Proofs.Ytfbfpnfgabamfaa
/- frame: Decode of the caller's own bytes; Encode's other answers. -/
namespace Go.Proofs.Ytfbfpnfgabamfaa
set_option linter.unusedSimpArgs false
open Go.RowKit
set_option maxRecDepth 100000
set_option linter.unusedVariables false
section
variable {F : Nat → Prop} {ρ : Nat → Option Value} {w w' : World} {H : Hp}
/-- A slice that a call made, as data from then on, beside the caller's objects. -/
theorem data_retG {s : Nat} {rows : List (List D)} {us : List Value} {e : TypeId} {v : Value} (En : Env F ρ H w) (hf : FlatVs rows.flatten us) (hs : ∀ r ∈ rows, r.length = s) (how : Ow w' w.heap.size e s v rows.length us) (hb : Below w.heap.size w w') :
    ∃ F', Step F ρ H w F' ρ H w' ∧ Env F' ρ H w' ∧ RD w' F' (.sl s rows) v := by
  have gen : ∀ N : Nat → Prop, (∀ b, N b → w.heap.size ≤ b ∧ b < w'.heap.size) → Step F ρ H w (fun b => F b ∨ N b) ρ H w' ∧ Env (fun b => F b ∨ N b) ρ H w' := by
    intro N hN
    refine ⟨⟨hb.os, hb.tape, hb.output, hb.size, fun b h _ => hb.block b h, fun b h => .inl h, fun b h => h.elim .inl fun h => .inr (.inl (hN b h).1), fun b h => .inr h⟩, ⟨fun b h => h.elim (fun h => Nat.lt_of_lt_of_le (En.fb b h) hb.size) fun h => (hN b h).2, En.abs, fun i o h1 h2 => ?_, fun i j o o' hh hh' b h1 h2 l1 l2 => En.inj i j o o' hh hh' b h1 h2 l1 l2⟩⟩
    obtain ⟨hh, e1, e2, e3⟩ := En.rep i o h1 h2
    refine ⟨hh, e1, e2.mono hb.size (fun b _ hlt => hb.block b hlt) (fun b hF => hb.block b (En.fb b hF)) (fun b h => .inl h) (Keep.refl _), fun b hk => ⟨Nat.lt_of_lt_of_le (e3 b hk).1 hb.size, fun q => ?_⟩⟩
    rcases q with q | q
    · exact (e3 b hk).2 q
    · have := (hN b q).1
      have := (e3 b hk).1
      omega
  obtain ⟨A', c', he, g1, g2, hrd⟩ := how.form
  rcases Nat.eq_zero_or_pos rows.length with h0 | h0
  · obtain rfl := List.eq_nil_of_length_eq_zero h0
    subst he
    obtain ⟨S, E⟩ := gen (fun _ => False) (fun b h => h.elim)
    exact ⟨_, S, E, .sl rfl hs g1 g2 .nil fun h => by simp at h⟩
  · have hlt : ∀ k, blkOf v = some k → w.heap.size ≤ k ∧ k < w'.heap.size := fun k hk => by
      obtain ⟨g, off, cap, rfl, hg0, hg, _⟩ := how.open_ h0
      injection hk with hk
      subst hk
      exact ⟨hg0, hg⟩
    subst he
    obtain ⟨S, E⟩ := gen (fun b => blkOf (.slice A' rows.length c') = some b) hlt
    refine ⟨_, S, E, .sl rfl hs g1 g2 hf.rds fun hp' => ?_⟩
    obtain ⟨b, off, rfl, hb, hc⟩ := hrd.2 hp'
    exact ⟨b, off, rfl, .inr rfl, hc⟩
end
theorem openO_sat (l : Bt) (hl : l.length ≤ 100000000) : Sat Try.prog 18 [.own 0] [.sl 1 (l.map bR)] (.tup [.d (bsD (openBody l)), iA (openErr l)]) [.sl 1 (l.map bR)] := by
  intro F ρ w vals En hv
  obtain ⟨v, rfl, hv'⟩ := hv.one_out
  cases hv' with | own R =>
  obtain ⟨hh, e1, ⟨vs, how, hra, hs1⟩, e3⟩ := En.rep 0 _ rfl rfl
  rw [R] at e1; injection e1 with e1; subst e1
  obtain rfl := (bR_flats l).eq hra
  obtain ⟨A', c', he, g1, g2, hrd⟩ := how.form
  rw [he]
  rw [List.length_map] at g1 hrd ⊢
  refine (open_any A' _ c' l w hrd g1 g2 (by omega)).mono ?_
  rintro x w' ⟨v, rfl, how, hb⟩
  obtain ⟨F1, S, E, R1⟩ := data_retG En (bR_flats (openBody l)) one_len (by rw [List.length_map]; exact how) hb
  exact ⟨_, rfl, F1, ρ, S, Keep.refl _, E, .tup (.cons (.d R1) (.cons (.d (.v _)) .nil))⟩
theorem decodeO_long (l : Bt) (hl : 65536 < l.length) : Sat Try.prog 7 [.own 0] [.sl 1 (l.map bR)] (.tup [.d (.agg (nilR frO)), iA 17]) [.sl 1 (l.map bR)] := by
  have d1 : decide (((l.map bR).length : Int) > 65536) = true := decide_eq_true (by rw [List.length_map]; omega)
  refine sat_of_vc (T := tiOf Try.prog) (E := E0) Try.func7 rfl rfl hE0 hm0 rfl ?_
  conv => whnf
  iterate 5
    repeat' (first | exact True.intro | ((first | refine And.intro (fun _ => ?_) tf | refine And.intro ft (fun _ => ?_) | refine And.intro (by kernel_rfl) ?_ | refine And.intro (by decide) ?_ | refine And.intro (fun _ => ?_) (fun h => absurd h (by decide)) | refine And.intro (fun h => absurd h (by decide)) (fun _ => ?_) | fail); conv => whnf) | (refine And.intro (fun _ => ?_) (fun _ => ?_) <;> conv => whnf) | fail)
    all_goals try (refine Or.inl ?_; conv => whnf)
  all_goals try exact (bnl d1 ‹_›).elim
  all_goals refine ⟨[], ?_⟩
  repeat (any_goals (first | exact True.intro | exact rfl | with_reducible_and_instances rfl | exact (by kernel_rfl) | refine And.intro ?_ ?_))
  all_goals conv => whnf
theorem decodeO_shut (l : Bt) (hl : l.length ≤ 65536) (h : openErr l ≠ 0) : Sat Try.prog 7 [.own 0] [.sl 1 (l.map bR)] (.tup [.d (.agg (nilR frO)), iA (openErr l)]) [.sl 1 (l.map bR)] := by
  have d1 : decide (((l.map bR).length : Int) > 65536) = false := decide_eq_false (by rw [List.length_map]; omega)
  have d2 : (openErr l != 0) = true := by rw [bne_iff_ne]; exact h
  have o1 := openO_sat l (by omega)
  refine sat_of_vc (T := tiOf Try.prog) (E := E0) Try.func7 rfl rfl hE0 hm0 rfl ?_
  conv => whnf
  iterate 5
    repeat' (first | exact True.intro | ((first | refine And.intro (fun _ => ?_) tf | refine And.intro ft (fun _ => ?_) | refine And.intro (by kernel_rfl) ?_ | refine And.intro (by decide) ?_ | refine And.intro (fun _ => ?_) (fun h => absurd h (by decide)) | refine And.intro (fun h => absurd h (by decide)) (fun _ => ?_) | refine ⟨_, _, o1.at1 0 rfl rfl rfl, ?_⟩ | fail); conv => whnf) | (refine And.intro (fun _ => ?_) (fun _ => ?_) <;> conv => whnf) | fail)
    all_goals try (refine Or.inl ?_; conv => whnf)
  all_goals try exact (bnl ‹_› d1).elim
  all_goals try exact (bnl d2 ‹_›).elim
  all_goals refine ⟨[], ?_⟩
  repeat (any_goals (first | exact True.intro | exact rfl | with_reducible_and_instances rfl | exact (by kernel_rfl) | refine And.intro ?_ ?_))
  all_goals conv => whnf
theorem decodeO_go (l : Bt) (hl : l.length ≤ 65536) (h : openErr l = 0) : Sat Try.prog 7 [.own 0] [.sl 1 (l.map bR)] (.tup [.d (frD (parseF (openBody l)).1), iA (parseF (openBody l)).2]) [.sl 1 (l.map bR)] := by
  have d1 : decide (((l.map bR).length : Int) > 65536) = false := decide_eq_false (by rw [List.length_map]; omega)
  have o1 := openO_sat l (by omega)
  rw [h] at o1
  have p1 := parse_sat (openBody l) (Nat.le_trans (openBody_len l) hl)
  refine sat_of_vc (T := tiOf Try.prog) (E := E0) Try.func7 rfl rfl hE0 hm0 rfl ?_
  conv => whnf
  iterate 5
    repeat' (first | exact True.intro | ((first | refine And.intro (fun _ => ?_) tf | refine And.intro ft (fun _ => ?_) | refine And.intro (by kernel_rfl) ?_ | refine And.intro (by decide) ?_ | refine And.intro (fun _ => ?_) (fun h => absurd h (by decide)) | refine And.intro (fun h => absurd h (by decide)) (fun _ => ?_) | refine ⟨_, _, o1.at1 0 rfl rfl rfl, ?_⟩ | refine ⟨_, _, p1.pu rfl rfl, ?_⟩ | fail); conv => whnf) | (refine And.intro (fun _ => ?_) (fun _ => ?_) <;> conv => whnf) | fail)
    all_goals try (refine Or.inl ?_; conv => whnf)
  all_goals try exact (bnl ‹_› d1).elim
  all_goals refine ⟨[], ?_⟩
  repeat (any_goals (first | exact True.intro | exact rfl | with_reducible_and_instances rfl | exact (by kernel_rfl) | refine And.intro ?_ ?_))
  all_goals conv => whnf
theorem decodeO_sat (l : Bt) : Sat Try.prog 7 [.own 0] [.sl 1 (l.map bR)] (.tup [.d (frD (decodeF l).1), iA (decodeF l).2]) [.sl 1 (l.map bR)] := by
  unfold decodeF
  by_cases h1 : 65536 < l.length
  · rw [if_pos h1]
    exact (decodeO_long l h1).weakR nil_frO
  · rw [if_neg h1]
    by_cases h2 : openErr l = 0
    · rw [if_neg (fun h => h h2)]
      exact decodeO_go l (by omega) h2
    · rw [if_pos h2]
      have := (decodeO_shut l (by omega) h2).weakR nil_frO
      show Sat _ _ _ _ (.tup [.d (frD frO), iA (((openErr l).toNat : Nat) : Int)]) _
      rw [Int.toNat_of_nonneg (openErr_nn l)]
      exact this
/-! ### what is decoded is a frame -/
theorem frO_ok : FrOk frO := by
  refine ⟨?_, ?_, ?_, ?_, ?_, ?_, ?_, ?_, ?_, ?_, ?_, ?_, ?_⟩
  all_goals first | (show in64 0; unfold in64; omega) | (simp [frO])
theorem finP_fok {g : Fr} {s : Rs} (h : FrOk g) : FrOk (finP g s).1 := by
  unfold finP
  split
  · exact frO_ok
  · split
    · exact h
    · exact frO_ok
theorem parseF_ok (l : Bt) : FrOk (parseF l).1 := by
  unfold parseF
  split
  · exact frO_ok
  split
  · exact frO_ok
  rename_i hk
  have hk : (uintS (l, 0)).1 ≤ 8 := by omega
  generalize (uintS (l, 0)).1 = k at *
  unfold parseK
  split
  · exact frO_ok
  unfold tailP
  split
  · split
    · exact frO_ok
    · rename_i he
      obtain ⟨g1, g2⟩ := eventsS_ok he
      exact finP_fok (frS_ok 5 _ _ (by decide) _ (by omega) (fun x hx => by have := g2 x hx; omega) (by simp))
  · split
    · exact frO_ok
    · split
      · exact frO_ok
      · exact finP_fok (frS_ok 8 _ _ (by decide) _ (by simp) (by simp) (by have := readS_labs (itS (idxK 8).length (uintS (l, 0)).2); omega))
  · exact finP_fok (frS_ok _ _ _ hk _ (by simp) (by simp) (by simp))
theorem decodeF_ok (l : Bt) : FrOk (decodeF l).1 := by
  unfold decodeF
  split
  · exact frO_ok
  · split
    · exact frO_ok
    · exact parseF_ok _
/-! ### Encode -/
theorem encode_bad (f : Fr) (hf : FrOk f) (hr : rightF f = false) : Sat Try.prog 6 [.d (frD f)] [] (.tup [.d nilV, iA 10]) [] := by
  have r1 := right_sat f hf
  rw [hr] at r1
  refine sat_of_vc (T := tiOf Try.prog) (E := E0) Try.func6 rfl rfl hE0 hm0 rfl ?_
  conv => whnf
  iterate 5
    repeat' (first | exact True.intro | ((first | refine And.intro (fun _ => ?_) tf | refine And.intro ft (fun _ => ?_) | refine And.intro (by kernel_rfl) ?_ | refine And.intro (by decide) ?_ | refine And.intro (fun _ => ?_) (fun h => absurd h (by decide)) | refine And.intro (fun h => absurd h (by decide)) (fun _ => ?_) | refine ⟨_, _, r1.pu rfl rfl, ?_⟩ | fail); conv => whnf) | (refine And.intro (fun _ => ?_) (fun _ => ?_) <;> conv => whnf) | fail)
    all_goals try (refine Or.inl ?_; conv => whnf)
  all_goals refine ⟨[], ?_⟩
  repeat (any_goals (first | exact True.intro | exact rfl | with_reducible_and_instances rfl | exact (by kernel_rfl) | refine And.intro ?_ ?_))
  all_goals conv => whnf
theorem encode_ok (f : Fr) (hf : FrOk f) (hz : ∀ x ∈ f.ev, in64 x.2.1) (hr : rightF f = true) (hL : (encodeT f).length ≤ 65536) : Sat Try.prog 6 [.d (frD f)] [] (.tup [.own 0, iA 0]) [.sl 1 ((encodeT f).map bR)] := by
  unfold encodeT at hL ⊢
  by_cases h : 1 ≤ f.k ∧ f.k ≤ 8
  · have hk : f.k = 1 ∨ f.k = 2 ∨ f.k = 3 ∨ f.k = 4 ∨ f.k = 5 ∨ f.k = 6 ∨ f.k = 7 ∨ f.k = 8 := by omega
    rcases hk with e | e | e | e | e | e | e | e
    all_goals rw [e] at hL ⊢
    · exact encode_1 f e hf (rightF_k e (by decide) (by decide) hr)
    · exact encode_2 f e hf (rightF_k e (by decide) (by decide) hr)
    · exact encode_3 f e hf (rightF_k e (by decide) (by decide) hr)
    · exact encode_4 f e hf (rightF_k e (by decide) (by decide) hr)
    · exact encode_5 f e hf hz (rightF_k e (by decide) (by decide) hr) hL
    · exact encode_6 f e hf (rightF_k e (by decide) (by decide) hr)
    · exact encode_7 f e hf (rightF_k e (by decide) (by decide) hr)
    · exact encode_8 f e hf (rightF_k e (by decide) (by decide) hr)
  · unfold rightF at hr
    rw [if_neg h] at hr
    cases hr
theorem encode_big (f : Fr) (hf : FrOk f) (hz : ∀ x ∈ f.ev, in64 x.2.1) (hr : rightF f = true) (hL : 65536 < (encodeT f).length) : Sat Try.prog 6 [.d (frD f)] [] (.tup [.d nilV, iA 17]) [] := by
  unfold encodeT at hL
  by_cases h : 1 ≤ f.k ∧ f.k ≤ 8
  · by_cases e : f.k = 5
    · rw [e] at hL
      exact encode_5b f e hf hz (rightF_k e (by decide) (by decide) hr) hL
    · exfalso
      have hr' := rightF_k (k := f.k.toNat) (by omega) (by omega) (by omega) hr
      obtain ⟨q1, q2, q3, q4⟩ := right_parts hr'
      rw [sealT_len] at hL
      unfold frT at hL
      have h1 := fldT_len (valsK f f.k.toNat)
      have h2 := valsK_len f f.k.toNat
      have h3 := enc_lens f.k.toNat
      unfold extT at hL
      rw [if_neg (by omega), List.length_append, List.length_append] at hL
      by_cases e8 : f.k = 8
      · rw [if_pos (by omega), List.length_append] at hL
        rw [e8] at q3
        have q3 : (rightB f.sr && decide (f.d.length ≤ 4096)) = true := q3
        simp only [Bool.and_eq_true, decide_eq_true_eq] at q3
        have h4 := serT_len f.sr
        have h5 := encTL_len f.d
        omega
      · rw [if_neg (by omega)] at hL
        simp at hL
        omega
  · unfold rightF at hr
    rw [if_neg h] at hr
    cases hr
theorem encode_pre {f : Fr} {xs : List D} {r : AV} {H' : List AObj} (h : Sat Try.prog 6 [.d (frD f)] [] r H') (hn : nilLe xs (frR f)) : Sat Try.prog 6 [.d (.agg xs)] [] r H' :=
  h.pre fun w F ρ vs h => by
    cases h with | cons h1 h2 =>
    cases h1 with | d h1 => exact .cons (.d (h1.nilLe hn)) h2
end Go.Proofs.Ytfbfpnfgabamfaa
/- A slice of the call's own is handed over for good; new objects come back. No program is named here. -/
namespace Go.Proofs.Ytfbfpnfgabamfaa
set_option linter.unusedSimpArgs false
set_option linter.unusedVariables false
open Go.RowKit
section
variable {P : Program} {w : World} {F : Nat → Prop} {ρ : Nat → Option Value} {H : Hp} {L : List AObj} {n : Nat} {g : FuncId}
theorem Env.frz {i s : Nat} {rows : List (List D)} (En : Env F ρ H w) (hi : H i = some (.sl s rows)) :
    Step F ρ H w (fun b => F b ∨ ∃ hh, ρ i = some hh ∧ blkOf hh = some b) ρ (updF H i (some .dead)) w ∧ Env (fun b => F b ∨ ∃ hh, ρ i = some hh ∧ blkOf hh = some b) ρ (updF H i (some .dead)) w := by
  have hH : ∀ hh, ρ i = some hh → ∀ b, blkOf hh = some b → b < w.heap.size ∧ Lv ρ H b := by
    intro hh hρ b hb
    obtain ⟨h0, e1, _, e3⟩ := En.rep i _ hi rfl
    rw [hρ] at e1; injection e1 with e1; subst e1
    exact ⟨(e3 b hb).1, i, _, hh, hi, rfl, hρ, hb⟩
  have hk : ∀ j o, updF H i (some .dead) j = some o → o.live = true → j ≠ i ∧ H j = some o := by
    intro j o hj hl
    by_cases e : j = i
    · subst e; rw [updF_same] at hj; injection hj with hj; subst hj; cases hl
    · rw [updF_ne _ _ e] at hj; exact ⟨e, hj⟩
  refine ⟨⟨rfl, rfl, rfl, Nat.le_refl _, fun _ _ _ => rfl, fun b hb => .inl hb, fun b hb => ?_, fun b ⟨j, o, hh, h1, h2, h3, h4⟩ => .inr ⟨j, o, hh, (hk j o h1 h2).2, h2, h3, h4⟩⟩, ⟨fun b hb => ?_, fun j hj => ?_, fun j o hj hl => ?_, fun j k o o' hh hh' b e1 e2 l1 l2 => En.inj j k o o' hh hh' b (hk j o e1 l1).2 (hk k o' e2 l2).2 l1 l2⟩⟩
  · rcases hb with q | ⟨hh, h1, h2⟩
    · exact .inl q
    · exact .inr (.inr (hH hh h1 b h2).2)
  · rcases hb with q | ⟨hh, h1, h2⟩
    · exact En.fb b q
    · exact (hH hh h1 b h2).1
  · by_cases e : j = i
    · subst e; rw [updF_same] at hj; cases hj
    · rw [updF_ne _ _ e] at hj; exact En.abs j hj
  · obtain ⟨hne, hj'⟩ := hk j o hj hl
    obtain ⟨hh, e1, e2, e3⟩ := En.rep j o hj' hl
    refine ⟨hh, e1, e2.mono (Nat.le_refl _) (fun b _ _ => rfl) (fun b _ => rfl) (fun b hb => .inl hb) (Keep.refl _), fun b hb => ⟨(e3 b hb).1, fun q => ?_⟩⟩
    rcases q with q | ⟨hh', h1, h2⟩
    · exact (e3 b hb).2 q
    · exact hne (En.inj j i o _ hh hh' b hj' hi hl rfl e1 h1 hb h2)
end
end Go.Proofs.Ytfbfpnfgabamfaa
/- frame: alive. -/
namespace Go.Proofs.Ytfbfpnfgabamfaa
set_option linter.unusedSimpArgs false
open Go.RowKit
set_option maxRecDepth 100000
set_option linter.unusedVariables false
set_option maxHeartbeats 1000000 in
theorem sameBytes_sat (a b : Bt) (ha : a.length ≤ 1000000) : Sat Try.prog 9 [.d (bsD a), .d (bsD b)] [] (bA (decide (a = b))) [] := by
  have hla : (a.map bR).length = a.length := List.length_map _
  have hlb : (b.map bR).length = b.length := List.length_map _
  by_cases hlen : a.length = b.length
  case neg =>
    rw [decide_eq_false fun h => hlen (by rw [h])]
    refine sat_of_vc (T := tiOf Try.prog) (E := E0) Try.func9 rfl rfl hE0 hm0 rfl ?_
    conv => whnf
    iterate 4
      repeat' (first | exact True.intro | ((first | refine And.intro (fun _ => ?_) tf | refine And.intro ft (fun _ => ?_) | refine And.intro (by kernel_rfl) ?_ | refine And.intro (by decide) ?_ | refine And.intro (fun _ => ?_) (fun h => absurd h (by decide)) | refine And.intro (fun h => absurd h (by decide)) (fun _ => ?_) | fail); conv => whnf) | (refine And.intro (fun _ => ?_) (fun _ => ?_) <;> conv => whnf) | fail)
      all_goals try (exfalso; simp only [decide_eq_true_eq, decide_eq_false_iff_not, Bool.not_eq_true', Bool.not_eq_false', Bool.not_eq_true, Bool.not_eq_false, beq_iff_eq, bne_iff_ne, beq_eq_false_iff_ne, bne_eq_false_iff_eq, ne_eq, Decidable.not_not] at *; first | omega | contradiction | (simp_all; done) | (simp_all; omega))
      all_goals try (refine Or.inl ?_; conv => whnf)
    all_goals refine ⟨[], ?_⟩
    repeat (any_goals (first | exact True.intro | exact rfl | with_reducible_and_instances rfl | exact (by kernel_rfl) | refine And.intro ?_ ?_))
    all_goals conv => whnf
  refine sat_of_vc (T := tiOf Try.prog) (E := E0) Try.func9 rfl rfl hE0 hm0 rfl ?_
  conv => whnf
  iterate 4
    repeat' (first | exact True.intro | ((first | refine And.intro (fun _ => ?_) tf | refine And.intro ft (fun _ => ?_) | refine And.intro (by kernel_rfl) ?_ | refine And.intro (by decide) ?_ | refine And.intro (fun _ => ?_) (fun h => absurd h (by decide)) | refine And.intro (fun h => absurd h (by decide)) (fun _ => ?_) | fail); conv => whnf) | (refine And.intro (fun _ => ?_) (fun _ => ?_) <;> conv => whnf) | fail)
    all_goals try (exfalso; simp only [decide_eq_true_eq, decide_eq_false_iff_not, Bool.not_eq_true', Bool.not_eq_false', Bool.not_eq_true, Bool.not_eq_false, beq_iff_eq, bne_iff_ne, beq_eq_false_iff_ne, bne_eq_false_iff_eq, ne_eq, Decidable.not_not] at *; first | omega | contradiction | (simp_all; done) | (simp_all; omega))
    all_goals try (refine Or.inl ?_; conv => whnf)
  refine ⟨Nat, fun i => i ≤ a.length ∧ a.take i = b.take i, fun i => ([(5, iA i), (1, .d (bsD b)), (0, .d (bsD a))], []), fun i => a.length - i, ⟨0, ⟨Nat.zero_le _, rfl⟩, ?_⟩, ?_⟩
  · all_goals refine ⟨[], ?_⟩
    repeat (any_goals (first | exact True.intro | exact rfl | with_reducible_and_instances rfl | exact (by kernel_rfl) | refine And.intro ?_ ?_))
    all_goals conv => whnf
  rintro i ⟨hi, hI⟩
  have hi : i ≤ a.length := hi
  conv => whnf
  by_cases hlt : i < a.length
  · have hx : a[i]? = some a[i] := List.getElem?_eq_getElem hlt
    generalize a[i] = x at hx
    have hy : b[i]? = some b[i] := List.getElem?_eq_getElem (by omega)
    generalize b[i]'(by omega) = y at hy
    have hgx := map_get (f := bR) hx
    have hgy := map_get (f := bR) hy
    have d1 : decide ((i : Int) < ((a.map bR).length : Nat)) = true := decide_eq_true (by rw [hla]; omega)
    by_cases hxy : x = y
    · have e1 : ((x.toNat : Int) != (y.toNat : Int)) = false := by rw [hxy]; simp
      iterate 4
        repeat' (first | exact True.intro | ((first | refine ⟨i, _, rfl, hgx, ?_⟩ | refine ⟨i, _, rfl, hgy, ?_⟩ | refine And.intro (fun _ => ?_) tf | refine And.intro ft (fun _ => ?_) | refine And.intro (by kernel_rfl) ?_ | refine And.intro (by decide) ?_ | refine And.intro (fun _ => ?_) (fun h => absurd h (by decide)) | refine And.intro (fun h => absurd h (by decide)) (fun _ => ?_) | fail); conv => whnf) | (refine And.intro (fun _ => ?_) (fun _ => ?_) <;> conv => whnf) | fail)
        all_goals try (refine Or.inl ?_; conv => whnf)
      all_goals try exact (bnl d1 ‹_›).elim
      all_goals try exact (bnl ‹_› e1).elim
      refine ⟨i + 1, ⟨hlt, by rw [List.take_add_one, List.take_add_one, hI, hx, hy, hxy]⟩, show a.length - (i + 1) < a.length - i by omega, ?_⟩
      all_goals refine ⟨[], ?_⟩
      repeat (any_goals (first | exact True.intro | exact rfl | with_reducible_and_instances rfl | exact (by kernel_rfl) | refine And.intro ?_ ?_))
      all_goals conv => whnf
      exact wk1 (by omega)
    · have e1 : ((x.toNat : Int) != (y.toNat : Int)) = true := by
        rw [bne_iff_ne]
        exact fun h => hxy (UInt8.toNat.inj (by omega))
      rw [decide_eq_false fun h => hxy (by rw [h, hy] at hx; injection hx with hx; exact hx.symm)]
      iterate 4
        repeat' (first | exact True.intro | ((first | refine ⟨i, _, rfl, hgx, ?_⟩ | refine ⟨i, _, rfl, hgy, ?_⟩ | refine And.intro (fun _ => ?_) tf | refine And.intro ft (fun _ => ?_) | refine And.intro (by kernel_rfl) ?_ | refine And.intro (by decide) ?_ | refine And.intro (fun _ => ?_) (fun h => absurd h (by decide)) | refine And.intro (fun h => absurd h (by decide)) (fun _ => ?_) | fail); conv => whnf) | (refine And.intro (fun _ => ?_) (fun _ => ?_) <;> conv => whnf) | fail)
        all_goals try (refine Or.inl ?_; conv => whnf)
      all_goals try exact (bnl d1 ‹_›).elim
      all_goals try exact (bnl e1 ‹_›).elim
      all_goals refine ⟨[], ?_⟩
      repeat (any_goals (first | exact True.intro | exact rfl | with_reducible_and_instances rfl | exact (by kernel_rfl) | refine And.intro ?_ ?_))
      all_goals conv => whnf
  · rw [decide_eq_true (by rw [← List.take_of_length_le (show a.length ≤ i by omega), hI, List.take_of_length_le (by omega)])]
    have d1 : decide ((i : Int) < ((a.map bR).length : Nat)) = false := decide_eq_false (by rw [hla]; omega)
    iterate 4
      repeat' (first | exact True.intro | ((first | refine And.intro (fun _ => ?_) tf | refine And.intro ft (fun _ => ?_) | refine And.intro (by kernel_rfl) ?_ | refine And.intro (by decide) ?_ | refine And.intro (fun _ => ?_) (fun h => absurd h (by decide)) | refine And.intro (fun h => absurd h (by decide)) (fun _ => ?_) | fail); conv => whnf) | (refine And.intro (fun _ => ?_) (fun _ => ?_) <;> conv => whnf) | fail)
      all_goals try (refine Or.inl ?_; conv => whnf)
    all_goals try exact (bnl ‹_› d1).elim
    all_goals refine ⟨[], ?_⟩
    repeat (any_goals (first | exact True.intro | exact rfl | with_reducible_and_instances rfl | exact (by kernel_rfl) | refine And.intro ?_ ?_))
    all_goals conv => whnf

section
variable {F : Nat → Prop} {ρ : Nat → Option Value} {w : World} {H : Hp} {P : Program} {L : List AObj} {n : Nat} {g : FuncId}
/-- A slice of the caller's own, in data's clothes. -/
def sbs (i : Nat) (x : D) : AV → AV
  | .own j => cond (Nat.beq j i) (.d x) (.own j)
  | y => y
theorem sbs_ra {i : Nat} {x : D} (h : ∀ v, RA w F ρ (.own i) v → RD w F x v) : ∀ {y : AV} {v : Value}, RA w F ρ y v → RA w F ρ (sbs i x y) v := by
  intro y v hy
  unfold sbs
  split
  · rename_i j
    cases hb : Nat.beq j i with
    | true =>
      have := Nat.eq_of_beq_eq_true hb
      subst this
      exact .d (h v hy)
    | false => exact hy
  · exact hy
theorem sbs_ras {i : Nat} {x : D} (h : ∀ v, RA w F ρ (.own i) v → RD w F x v) : ∀ {ys : List AV} {vs : List Value}, RAs w F ρ ys vs → RAs w F ρ (ys.map (sbs i x)) vs
  | [], _, h0 => by cases h0; exact .nil
  | y :: ys, _, h0 => by
    cases h0 with | cons h1 h2 => exact .cons (sbs_ra h h1) (sbs_ras h h2)
/-- An object's cells, told otherwise. -/
theorem Env.recell {j : Nat} {cs cs' : List AV} (En : Env F ρ H w) (hj : H j = some (.cells cs)) (h : ∀ vs, RAs w F ρ cs vs → RAs w F ρ cs' vs) : Step F ρ H w F ρ (updF H j (some (.cells cs'))) w ∧ Env F ρ (updF H j (some (.cells cs'))) w := by
  have hk : ∀ i o, updF H j (some (.cells cs')) i = some o → (i = j ∧ o = .cells cs') ∨ H i = some o := by
    intro i o hi
    by_cases e : i = j
    · subst e; rw [updF_same] at hi; injection hi with hi; exact .inl ⟨rfl, hi.symm⟩
    · rw [updF_ne _ _ e] at hi; exact .inr hi
  refine ⟨⟨rfl, rfl, rfl, Nat.le_refl _, fun _ _ _ => rfl, fun b hb => hb, fun b hb => .inl hb, fun b ⟨i, o, hh, h1, h2, h3, h4⟩ => ?_⟩, ⟨En.fb, fun i hi => ?_, fun i o hi hl => ?_, fun i k o o' hh hh' b e1 e2 l1 l2 r1 r2 b1 b2 => ?_⟩⟩
  · rcases hk i o h1 with ⟨rfl, rfl⟩ | q
    · exact .inr ⟨i, _, hh, hj, rfl, h3, h4⟩
    · exact .inr ⟨i, o, hh, q, h2, h3, h4⟩
  · by_cases e : i = j
    · subst e; rw [updF_same] at hi; cases hi
    · rw [updF_ne _ _ e] at hi; exact En.abs i hi
  · rcases hk i o hi with ⟨rfl, rfl⟩ | q
    · obtain ⟨hh, e1, ⟨b, t, vs, q1, q2, q3, q4⟩, e3⟩ := En.rep i _ hj rfl
      exact ⟨hh, e1, ⟨b, t, vs, q1, q2, h _ q3, q4⟩, e3⟩
    · exact En.rep i o q hl
  · have a1 : ∃ o1, H i = some o1 ∧ o1.live = true := by
      rcases hk i o e1 with ⟨rfl, rfl⟩ | q
      · exact ⟨_, hj, rfl⟩
      · exact ⟨o, q, l1⟩
    have a2 : ∃ o1, H k = some o1 ∧ o1.live = true := by
      rcases hk k o' e2 with ⟨rfl, rfl⟩ | q
      · exact ⟨_, hj, rfl⟩
      · exact ⟨o', q, l2⟩
    obtain ⟨o1, g1, g2⟩ := a1
    obtain ⟨o2, g3, g4⟩ := a2
    exact En.inj i k o1 o2 hh hh' b g1 g3 g2 g4 r1 r2 b1 b2
theorem ras_rds : ∀ {ds : List D} {vs : List Value}, RAs w F ρ (ds.map .d) vs → (∀ c ∈ vs, c.oneCell' = true) → RDs w F ds vs
  | [], _, h, _ => by cases h; exact .nil
  | d :: ds, _, h, h1 => by
    cases h with | cons h2 h3 =>
    cases h2 with | d h2 => exact .cons h2 (h1 _ (List.mem_cons_self ..)) (ras_rds h3 fun c hc => h1 c (List.mem_cons_of_mem _ hc))
/-- A call that is handed an object's cells, of which one is a slice of the caller's own: it is data from then on. -/
theorem Sat.frzCells {i j s : Nat} {rows : List (List D)} {xs : List AV} {ds : List D} {r : AV} {H' : List AObj} (h : Sat P g [.d (.agg ds)] [] r H') (hi : L[i]? = some (.sl s rows)) (hj : L[j]? = some (.cells xs)) (hij : i ≠ j) (hx : xs.map (sbs i (.sl s rows)) = ds.map .d) :
    CallOK P g [.agg xs] L n ⟨[i, j], [(i, .dead), (j, .cells (ds.map .d))], AObj.rns (sub [] n) H'⟩ (r.rn (sub [] n)) := by
  intro K F ρ w vals En hrs hnew hv
  have hKi : K i = some (.sl s rows) := (hrs i (by simp)).trans hi
  have hKj : K j = some (.cells xs) := (hrs j (by simp)).trans hj
  obtain ⟨S0, E1⟩ := En.frz hKi
  have hown : ∀ v, RA w (fun b => F b ∨ ∃ hh, ρ i = some hh ∧ blkOf hh = some b) ρ (.own i) v → RD w (fun b => F b ∨ ∃ hh, ρ i = some hh ∧ blkOf hh = some b) (.sl s rows) v := by
    intro v hv
    cases hv with | own R =>
    rename_i A m c
    obtain ⟨hh, e1, ⟨vs, how, hra, hs1⟩, e3⟩ := En.rep i _ hKi rfl
    rw [R] at e1; injection e1 with e1; subst e1
    obtain ⟨A', c', he, g1, g2, hrd⟩ := how.form
    injection he with q1 q2 q3
    subst q1 q2 q3
    exact .sl rfl hs1 g1 g2 (hra.mono (fun _ _ => rfl) fun _ h => .inl h) fun hp' => by
      obtain ⟨b, off, rfl, hb, hc⟩ := hrd.2 hp'
      exact ⟨b, off, rfl, .inr ⟨_, R, rfl⟩, hc⟩
  have hKj1 : updF K i (some .dead) j = some (.cells xs) := by rw [updF_ne _ _ (Ne.symm hij)]; exact hKj
  obtain ⟨S2, E2⟩ := E1.recell (cs' := ds.map .d) hKj1 fun vs hvs => by rw [← hx]; exact sbs_ras hown hvs
  obtain ⟨v, rfl, hv'⟩ := hv.one_out
  have hv2 : RAs w (fun b => F b ∨ ∃ hh, ρ i = some hh ∧ blkOf hh = some b) ρ [.d (.agg ds)] [v] := by
    have hv3 := RA.mono (w' := w) (F' := fun b => F b ∨ ∃ hh, ρ i = some hh ∧ blkOf hh = some b) (ρ' := ρ) (fun _ _ => rfl) (fun _ h => .inl h) (fun _ _ h => h) hv'
    cases hv3 with | agg h1 h2 =>
      have := sbs_ras hown h1
      rw [hx] at this
      exact .cons (.d (.agg (ras_rds this h2))) .nil
  have C := h.nw (L := L) (n := n) rfl
  refine (C (updF (updF K i (some .dead)) j (some (.cells (ds.map .d)))) _ ρ w _ E2 (fun j hj => by cases hj) (fun k hk => ?_) hv2).mono ?_
  · have := hnew k hk
    rw [updF_ne _ _ (fun e => by rw [e, hKj] at this; cases this), updF_ne _ _ (fun e => by rw [e, hKi] at this; cases this)]
    exact this
  · rintro en w' ⟨v, rfl, F', ρ', S, K', E', R⟩
    exact ⟨v, rfl, F', ρ', (S0.trans S2).trans S, K', E', R⟩
theorem lend_oo {i j s s' : Nat} {rows rows' : List (List D)} {r : AV} (h : Sat P g [.d (.sl s rows), .d (.sl s' rows')] [] r []) (hi : L[i]? = some (.sl s rows)) (hj : L[j]? = some (.sl s' rows')) (hr : flatA r = true) : CallOK P g [.own i, .own j] L n ⟨[i, j], [], []⟩ r := by
  have hl : Lend L [.own i, .own j] [.d (.sl s rows), .d (.sl s' rows')] [i, j] := ⟨[j], rfl, hi, [], rfl, hj, rfl⟩
  exact h.lend hl hr (lend_live hl)
theorem rd_sl_le {s : Nat} {rows rows' : List (List D)} {v : Value} (hl : rows.length = rows'.length) (hs' : ∀ r ∈ rows', r.length = s) (hn : nilLe rows.flatten rows'.flatten) (h : RD w F (.sl s rows) v) : RD w F (.sl s rows') v := by
  cases h with | sl hn1 hs h1 h2 hr hm => exact .sl (by omega) hs' h1 h2 (RDs.nilLe hn hr) hm
theorem rds_repl {x x' : D} {ys : List D} (h : ∀ v, RD w F x v → RD w F x' v) : ∀ {xs : List D} {vs : List Value}, RDs w F (xs ++ x :: ys) vs → RDs w F (xs ++ x' :: ys) vs
  | [], _, h0 => by
    cases h0 with | cons h1 h2 h3 => exact .cons (h _ h1) h2 h3
  | z :: xs, _, h0 => by
    cases h0 with | cons h1 h2 h3 => exact .cons h1 h2 (rds_repl h (xs := xs) h3)
end
def f1c : Fr := ⟨1, 3, 0, 300, 0, 0, 0, 0, 0, 0, [], ([], []), []⟩
def f2c : Fr := ⟨5, 1, 2, 0, 0, 0, 0, 5, 0, 0, [(9, -4, [109], [])], ([], []), []⟩
/-- The batch of alive, as it is laid. -/
abbrev ds2 : List D := [iD 5, iD 1, iD 2, iD 0, iD 0, iD 0, iD 0, iD 5, iD 0, iD 0, .sl 4 [[iD 9, iD (-4), tD [109], nilV]], tD [], nilV, nilV]
theorem ds2_le {w : World} {F : Nat → Prop} {v : Value} (h : RD w F (.agg ds2) v) : RD w F (frD f2c) v := by
  cases h with | agg h =>
  refine .agg ?_
  have hs : ∀ r ∈ f2c.ev.map evR, r.length = 4 := fun r hr => by rw [List.mem_singleton.1 hr]; rfl
  have hl : nilLe ([[iD 9, iD (-4), tD [109], nilV]] : List (List D)).flatten (f2c.ev.map evR).flatten := by
    repeat' (first | exact trivial | refine And.intro ?_ ?_ | exact .inl rfl | exact .inr ⟨rfl, _, rfl⟩)
  have hsl : ∀ v, RD w F (.sl 4 [[iD 9, iD (-4), tD [109], nilV]]) v → RD w F (.sl 4 (f2c.ev.map evR)) v := fun v hv => rd_sl_le (rows := [[iD 9, iD (-4), tD [109], nilV]]) (rows' := f2c.ev.map evR) rfl hs hl hv
  have h1 := rds_repl (w := w) (F := F) (x := .sl 4 [[iD 9, iD (-4), tD [109], nilV]]) (x' := .sl 4 (f2c.ev.map evR)) (ys := [tD [], nilV, nilV]) hsl (xs := [iD 5, iD 1, iD 2, iD 0, iD 0, iD 0, iD 0, iD 5, iD 0, iD 0]) h
  exact RDs.nilLe (by repeat' (first | exact trivial | refine And.intro ?_ ?_ | exact .inl rfl | exact .inr ⟨rfl, _, rfl⟩)) h1
theorem f1_ok : FrOk f1c := by
  refine ⟨?_, ?_, ?_, ?_, ?_, ?_, ?_, ?_, ?_, ?_, ?_, ?_, ?_⟩
  all_goals first | (simp only [f1c]; unfold in64; omega) | (simp [f1c])
theorem f2_ok : FrOk f2c := by
  refine ⟨?_, ?_, ?_, ?_, ?_, ?_, ?_, ?_, ?_, ?_, ?_, ?_, ?_⟩
  all_goals first | (simp only [f2c]; unfold in64; omega) | (simp [f2c])
theorem e1c : encodeT f1c = [1, 3, 172, 2, 233, 148, 2, 119] := by decide +kernel
theorem e2c : encodeT f2c = [5, 1, 2, 5, 1, 9, 7, 1, 109, 0, 27, 105, 207, 136] := by decide +kernel
theorem r1c : rightF f1c = true := by decide +kernel
theorem r2c : rightF f2c = true := by decide +kernel
theorem d2c : decodeF [5, 1, 2, 5, 1, 9, 7, 1, 109, 0, 27, 105, 207, 136] = (f2c, 0) := by kernel_rfl
theorem d3c : decodeF [5, 2, 2, 5, 1, 9, 7, 1, 109, 0, 27, 105, 207, 136] = (frO, 14) := by kernel_rfl
theorem s2c : sameB f2c f2c = true := by decide +kernel
end Go.Proofs.Ytfbfpnfgabamfaa
/- frame: alive. -/
namespace Go.Proofs.Ytfbfpnfgabamfaa
set_option linter.unusedSimpArgs false
open Go.RowKit
set_option maxRecDepth 100000
set_option linter.unusedVariables false
set_option maxHeartbeats 8000000 in
theorem alive9 : Sat Try.prog 4 [] [] (bA true) [] := by
  have e1 := encode_pre (encode_ok f1c f1_ok (by simp [f1c]) r1c (by rw [e1c]; decide)) (xs := nilR f1c) (by repeat' (first | exact trivial | refine And.intro ?_ ?_ | exact .inl rfl | exact .inr ⟨rfl, _, rfl⟩))
  rw [e1c] at e1
  have e2 : Sat Try.prog 6 [.d (.agg ds2)] [] (.tup [.own 0, iA 0]) [.sl 1 ((encodeT f2c).map bR)] := (encode_ok f2c f2_ok (fun x hx => by rw [List.mem_singleton.1 hx]; exact ⟨by decide, by decide⟩) r2c (by rw [e2c]; decide)).pre fun w F ρ vs h => by
    cases h with | cons h1 h2 =>
    cases h1 with | d h1 => exact .cons (.d (ds2_le h1)) h2
  rw [e2c] at e2
  have d2 := decodeO_sat [5, 1, 2, 5, 1, 9, 7, 1, 109, 0, 27, 105, 207, 136]
  rw [d2c] at d2
  have e3 := encode_pre (encode_bad frO frO_ok (by decide +kernel)) nil_frO
  have d3 := decodeO_sat [5, 2, 2, 5, 1, 9, 7, 1, 109, 0, 27, 105, 207, 136]
  rw [d3c] at d3
  have r2 : Sat Try.prog 10 [.d (.agg ds2)] [] (bA (rightF f2c)) [] := (right_sat f2c f2_ok).pre fun w F ρ vs h => by
    cases h with | cons h1 h2 =>
    cases h1 with | d h1 => exact .cons (.d (ds2_le h1)) h2
  rw [r2c] at r2
  have s2 : Sat Try.prog 8 [.d (frD f2c), .d (.agg ds2)] [] (bA (sameB f2c f2c)) [] := (same_sat f2c f2c f2_ok f2_ok).pre fun w F ρ vs h => by
    cases h with | cons h1 h2 =>
    cases h2 with | cons h2 h3 =>
    cases h2 with | d h2 => exact .cons h1 (.cons (.d (ds2_le h2)) h3)
  rw [s2c] at s2
  have sb := sameBytes_sat [1, 3, 172, 2] [1, 3, 172, 2] (by decide)
  refine sat_of_vc (T := tiOf Try.prog) (E := E0) Try.func4 rfl rfl hE0 hm0 rfl ?_
  conv => whnf
  iterate 12
    repeat' (first | exact True.intro | ((first | refine ⟨1, rfl, (by decide), ?_⟩ | refine ⟨[byD 1], rfl, ?_⟩ | refine ⟨[byD 1], [byD 2], rfl, rfl, ?_⟩ | refine ⟨0, _, rfl, rfl, ?_⟩ | refine And.intro (fun _ => ?_) tf | refine And.intro ft (fun _ => ?_) | refine And.intro (by kernel_rfl) ?_ | refine And.intro (by decide) ?_ | refine And.intro (fun _ => ?_) (fun h => absurd h (by decide)) | refine And.intro (fun h => absurd h (by decide)) (fun _ => ?_) | refine ⟨_, _, e1.nw rfl, ?_⟩ | refine ⟨_, _, e2.frzCells (i := 1) (j := 2) rfl rfl (by decide) rfl, ?_⟩ | refine ⟨_, _, d2.at1 3 rfl rfl rfl, ?_⟩ | refine ⟨_, _, e3.pu rfl rfl, ?_⟩ | refine ⟨_, _, d3.at1 3 rfl rfl rfl, ?_⟩ | refine ⟨_, _, r2.pu rfl rfl, ?_⟩ | refine ⟨_, _, s2.pu rfl rfl, ?_⟩ | refine ⟨_, _, upto_o (hi := 4) 1 1 (by kernel_rfl) rfl (by decide), ?_⟩ | refine ⟨_, _, lend_oo sb rfl rfl rfl, ?_⟩ | fail); conv => whnf) | (refine And.intro (fun _ => ?_) (fun _ => ?_) <;> conv => whnf) | fail)
    all_goals try (refine Or.inl ?_; conv => whnf)
  all_goals try (exfalso; simp only [decide_eq_true_eq, decide_eq_false_iff_not, Bool.not_eq_true', Bool.not_eq_false', Bool.not_eq_true, Bool.not_eq_false, beq_iff_eq, bne_iff_ne, beq_eq_false_iff_ne, bne_eq_false_iff_eq, ne_eq, Decidable.not_not] at *; first | omega | contradiction | (simp_all; done) | (simp_all; omega))
  all_goals refine ⟨[], ?_⟩
  repeat (any_goals (first | exact True.intro | exact rfl | with_reducible_and_instances rfl | exact (by kernel_rfl) | refine And.intro ?_ ?_))
  all_goals conv => whnf
end Go.Proofs.Ytfbfpnfgabamfaa
/- frame: Great; what a turned bit does. -/
namespace Go.Proofs.Ytfbfpnfgabamfaa
set_option linter.unusedSimpArgs false
open Go.RowKit
set_option maxRecDepth 100000
set_option linter.unusedVariables false
def greatF (f : Fr) : Bool := decide (f.ev.length > 100) || (decide (f.d.length > 5000) || (greatB f.sr || f.ev.any fun x => greatB x.2.2))
theorem great_no9 {f : Fr} (h : greatF f = false) : f.ev.length ≤ 100 ∧ f.d.length ≤ 5000 ∧ f.sr.2.length ≤ 100 ∧ ∀ x ∈ f.ev, x.2.2.2.length ≤ 100 := by
  unfold greatF at h
  simp only [Bool.or_eq_false_iff, decide_eq_false_iff_not, List.any_eq_false] at h
  refine ⟨by omega, by omega, (great_no8 h.2.2.1).1, fun x hx => (great_no8 (by have := h.2.2.2 x hx; simpa using this)).1⟩
set_option maxHeartbeats 8000000 in
theorem great9_sat (f : Fr) : Sat Try.prog 5 [.d (frD f)] [] (bA (greatF f)) [] := by
  have g1 := great8_sat f.sr
  obtain ⟨kk, a, e, b, c, g, s, n, t, w, l, sr, d⟩ := f
  have hl : (l.map evR).length = l.length := List.length_map _
  have hd : (d.map bR).length = d.length := List.length_map _
  have g1 : Sat Try.prog 11 [.d (serD sr)] [] (bA (greatB sr)) [] := g1
  by_cases h1 : l.length > 100 ∨ d.length > 5000 ∨ greatB sr = true
  · rw [show greatF ⟨kk, a, e, b, c, g, s, n, t, w, l, sr, d⟩ = true by unfold greatF; rcases h1 with h | h | h <;> simp [h]]
    refine sat_of_vc (T := tiOf Try.prog) (E := E0) Try.func5 rfl rfl hE0 hm0 rfl ?_
    conv => whnf
    iterate 4
      repeat' (first | exact True.intro | ((first | refine And.intro (fun _ => ?_) tf | refine And.intro ft (fun _ => ?_) | refine And.intro (by kernel_rfl) ?_ | refine And.intro (by decide) ?_ | refine And.intro (fun _ => ?_) (fun h => absurd h (by decide)) | refine And.intro (fun h => absurd h (by decide)) (fun _ => ?_) | refine ⟨_, _, g1.pu rfl rfl, ?_⟩ | fail); conv => whnf) | (refine And.intro (fun _ => ?_) (fun _ => ?_) <;> conv => whnf) | fail)
      all_goals try (exfalso; simp only [decide_eq_true_eq, decide_eq_false_iff_not, Bool.not_eq_true', Bool.not_eq_false', Bool.not_eq_true, Bool.not_eq_false, beq_iff_eq, bne_iff_ne, beq_eq_false_iff_ne, bne_eq_false_iff_eq, ne_eq, Decidable.not_not] at *; first | omega | contradiction | (simp_all; done) | (simp_all; omega))
      all_goals try (refine Or.inl ?_; conv => whnf)
    all_goals refine ⟨[], ?_⟩
    repeat (any_goals (first | exact True.intro | exact rfl | with_reducible_and_instances rfl | exact (by kernel_rfl) | refine And.intro ?_ ?_))
    all_goals conv => whnf
  have q1 : ¬ l.length > 100 := fun h => h1 (.inl h)
  have q2 : ¬ d.length > 5000 := fun h => h1 (.inr (.inl h))
  have q3 : greatB sr = false := by
    cases hq : greatB sr with
    | false => rfl
    | true => exact absurd (.inr (.inr hq)) h1
  rw [show greatF ⟨kk, a, e, b, c, g, s, n, t, w, l, sr, d⟩ = l.any fun x => greatB x.2.2 by
    show (decide (l.length > 100) || (decide (d.length > 5000) || (greatB sr || _))) = _
    rw [decide_eq_false q1, decide_eq_false q2, q3, Bool.false_or, Bool.false_or, Bool.false_or]]
  rw [q3] at g1
  refine sat_of_vc (T := tiOf Try.prog) (E := E0) Try.func5 rfl rfl hE0 hm0 rfl ?_
  conv => whnf
  iterate 4
    repeat' (first | exact True.intro | ((first | refine And.intro (fun _ => ?_) tf | refine And.intro ft (fun _ => ?_) | refine And.intro (by kernel_rfl) ?_ | refine And.intro (by decide) ?_ | refine And.intro (fun _ => ?_) (fun h => absurd h (by decide)) | refine And.intro (fun h => absurd h (by decide)) (fun _ => ?_) | refine ⟨_, _, g1.pu rfl rfl, ?_⟩ | fail); conv => whnf) | (refine And.intro (fun _ => ?_) (fun _ => ?_) <;> conv => whnf) | fail)
    all_goals try (exfalso; simp only [decide_eq_true_eq, decide_eq_false_iff_not, Bool.not_eq_true', Bool.not_eq_false', Bool.not_eq_true, Bool.not_eq_false, beq_iff_eq, bne_iff_ne, beq_eq_false_iff_ne, bne_eq_false_iff_eq, ne_eq, Decidable.not_not] at *; first | omega | contradiction | (simp_all; done) | (simp_all; omega))
    all_goals try (refine Or.inl ?_; conv => whnf)
  refine ⟨Nat, fun i => i ≤ l.length ∧ ((l.take i).any fun x => greatB x.2.2) = false, fun i => ([(3, iA i), (1, .ptr 0 0)], [.cells (frA ⟨kk, a, e, b, c, g, s, n, t, w, l, sr, d⟩)]), fun i => l.length - i, ⟨0, ⟨Nat.zero_le _, rfl⟩, ?_⟩, ?_⟩
  · all_goals refine ⟨[], ?_⟩
    repeat (any_goals (first | exact True.intro | exact rfl | with_reducible_and_instances rfl | exact (by kernel_rfl) | refine And.intro ?_ ?_))
    all_goals conv => whnf
  rintro i ⟨hi, hI⟩
  have hi : i ≤ l.length := hi
  conv => whnf
  by_cases hlt : i < l.length
  · have hx : l[i]? = some l[i] := List.getElem?_eq_getElem hlt
    generalize l[i] = x at hx
    have hgx := map_get (f := evR) hx
    have g2 := great8_sat x.2.2
    have d1 : decide ((i : Int) < ((l.map evR).length : Nat)) = true := decide_eq_true (by rw [hl]; omega)
    cases hc : greatB x.2.2 with
    | true =>
      rw [hc] at g2
      rw [show (l.any fun x => greatB x.2.2) = true by
        rw [List.any_eq_true]; exact ⟨x, List.mem_of_getElem? hx, hc⟩]
      iterate 5
        repeat' (first | exact True.intro | ((first | refine ⟨i, _, rfl, hgx, ?_⟩ | refine And.intro (fun _ => ?_) tf | refine And.intro ft (fun _ => ?_) | refine And.intro (by kernel_rfl) ?_ | refine And.intro (by decide) ?_ | refine And.intro (fun _ => ?_) (fun h => absurd h (by decide)) | refine And.intro (fun h => absurd h (by decide)) (fun _ => ?_) | refine ⟨_, _, g2.pu rfl rfl, ?_⟩ | fail); conv => whnf) | (refine And.intro (fun _ => ?_) (fun _ => ?_) <;> conv => whnf) | fail)
        all_goals try (refine Or.inl ?_; conv => whnf)
      all_goals try exact (bnl d1 ‹_›).elim
      all_goals try (exfalso; simp only [decide_eq_true_eq, decide_eq_false_iff_not, Bool.not_eq_true', Bool.not_eq_false', Bool.not_eq_true, Bool.not_eq_false, beq_iff_eq, bne_iff_ne, beq_eq_false_iff_ne, bne_eq_false_iff_eq, ne_eq, Decidable.not_not] at *; first | omega | contradiction | (simp_all; done) | (simp_all; omega))
      all_goals refine ⟨[], ?_⟩
      repeat (any_goals (first | exact True.intro | exact rfl | with_reducible_and_instances rfl | exact (by kernel_rfl) | refine And.intro ?_ ?_))
      all_goals conv => whnf
    | false =>
      rw [hc] at g2
      iterate 5
        repeat' (first | exact True.intro | ((first | refine ⟨i, _, rfl, hgx, ?_⟩ | refine And.intro (fun _ => ?_) tf | refine And.intro ft (fun _ => ?_) | refine And.intro (by kernel_rfl) ?_ | refine And.intro (by decide) ?_ | refine And.intro (fun _ => ?_) (fun h => absurd h (by decide)) | refine And.intro (fun h => absurd h (by decide)) (fun _ => ?_) | refine ⟨_, _, g2.pu rfl rfl, ?_⟩ | fail); conv => whnf) | (refine And.intro (fun _ => ?_) (fun _ => ?_) <;> conv => whnf) | fail)
        all_goals try (refine Or.inl ?_; conv => whnf)
      all_goals try exact (bnl d1 ‹_›).elim
      all_goals try (exfalso; simp only [decide_eq_true_eq, decide_eq_false_iff_not, Bool.not_eq_true', Bool.not_eq_false', Bool.not_eq_true, Bool.not_eq_false, beq_iff_eq, bne_iff_ne, beq_eq_false_iff_ne, bne_eq_false_iff_eq, ne_eq, Decidable.not_not] at *; first | omega | contradiction | (simp_all; done) | (simp_all; omega))
      refine ⟨i + 1, ⟨hlt, ?_⟩, show l.length - (i + 1) < l.length - i by omega, ?_⟩
      · rw [List.take_add_one, hx, List.any_append, hI]
        simp [hc]
      all_goals refine ⟨[], ?_⟩
      repeat (any_goals (first | exact True.intro | exact rfl | with_reducible_and_instances rfl | exact (by kernel_rfl) | refine And.intro ?_ ?_))
      all_goals conv => whnf
      exact wk1 (by omega)
  · rw [← List.take_of_length_le (by omega : l.length ≤ i), hI, List.take_of_length_le (by omega : l.length ≤ i)]
    iterate 5
      repeat' (first | exact True.intro | ((first | refine And.intro (fun _ => ?_) tf | refine And.intro ft (fun _ => ?_) | refine And.intro (by kernel_rfl) ?_ | refine And.intro (by decide) ?_ | refine And.intro (fun _ => ?_) (fun h => absurd h (by decide)) | refine And.intro (fun h => absurd h (by decide)) (fun _ => ?_) | fail); conv => whnf) | (refine And.intro (fun _ => ?_) (fun _ => ?_) <;> conv => whnf) | fail)
      all_goals try (refine Or.inl ?_; conv => whnf)
    all_goals try (exfalso; simp only [decide_eq_true_eq, decide_eq_false_iff_not, Bool.not_eq_true', Bool.not_eq_false', Bool.not_eq_true, Bool.not_eq_false, beq_iff_eq, bne_iff_ne, beq_eq_false_iff_ne, bne_eq_false_iff_eq, ne_eq, Decidable.not_not] at *; first | omega | contradiction | (simp_all; done) | (simp_all; omega))
    all_goals refine ⟨[], ?_⟩
    repeat (any_goals (first | exact True.intro | exact rfl | with_reducible_and_instances rfl | exact (by kernel_rfl) | refine And.intro ?_ ?_))
    all_goals conv => whnf
/-! ### a turned bit -/
theorem le4_inj {a b : Nat} (ha : a < 4294967296) (hb : b < 4294967296) (h : le4 a = le4 b) : a = b := by
  simp only [le4, List.cons.injEq, and_true, ← UInt8.toNat_inj, UInt8.toNat_ofNat'] at h
  omega
theorem xor_ne (x : UInt8) (q : Nat) : x ^^^ bitOf q ≠ x := by
  intro h
  have h1 : (x ^^^ (x ^^^ bitOf q)) = x ^^^ x := by rw [h]
  rw [← UInt8.xor_assoc, UInt8.xor_self, UInt8.zero_xor] at h1
  have h2 := bitOf_val q
  rw [h1] at h2
  have : 0 < 2 ^ q := Nat.two_pow_pos q
  simp at h2
  omega
theorem flip_bad {l : Bt} {a : Nat} (h : a / 8 < (sealT l).length) (y : UInt8) (hy : y = (sealT l)[a / 8] ^^^ bitOf a) : openErr ((sealT l).set (a / 8) y) = 14 := by
  have hlen : ((sealT l).set (a / 8) y).length = l.length + 4 := by rw [List.length_set, sealT_len]
  have hs := sealT_len l
  have hno : openOk ((sealT l).set (a / 8) y) = false := by
    unfold openOk
    rw [hlen, Nat.add_sub_cancel]
    refine decide_eq_false fun ⟨_, hq⟩ => ?_
    by_cases hk : a / 8 < l.length
    · have e1 : (sealT l).set (a / 8) y = l.set (a / 8) y ++ le4 (sumN l) := by
        unfold sealT
        rw [List.set_append_left _ _ hk]
      rw [e1] at hq
      have hl2 : (l.set (a / 8) y).length = l.length := List.length_set
      rw [← hl2, List.drop_left, List.take_left] at hq
      have hx : (sealT l)[a / 8] = l[a / 8] := by
        unfold sealT
        exact List.getElem_append_left hk
      have e2 : l.set (a / 8) y = l.modify (a / 8) (· ^^^ bitOf a) := by rw [modify_set _ _ _ hk, hy, hx]
      have e3 := leV_modify l (a / 8) (bitOf a) hk
      rw [bitOf_val, ← e2] at e3
      exact sum_ne (l := l) (t := l.set (a / 8) y) hl2 (f := 1) (at_ := a) (by decide) (by decide) (by omega) (by rw [Nat.mul_one]; exact e3) (le4_inj (sumN_lt _) (sumN_lt _) hq).symm
    · have e1 : (sealT l).set (a / 8) y = l ++ (le4 (sumN l)).set (a / 8 - l.length) y := by
        unfold sealT
        rw [List.set_append_right _ _ (by omega)]
      rw [e1, List.drop_left, List.take_left] at hq
      have hk4 : a / 8 - l.length < (le4 (sumN l)).length := by show _ < 4; omega
      have e4 : ((le4 (sumN l)).set (a / 8 - l.length) y)[a / 8 - l.length]'(by rw [List.length_set]; exact hk4) = y := List.getElem_set_self _
      have e5 : (sealT l)[a / 8] = (le4 (sumN l))[a / 8 - l.length] := by
        unfold sealT
        exact List.getElem_append_right (by omega)
      have e6 : ((le4 (sumN l)).set (a / 8 - l.length) y)[a / 8 - l.length]'(by rw [List.length_set]; exact hk4) = (le4 (sumN l))[a / 8 - l.length] := by
        simp only [hq]
      rw [e4, hy, e5] at e6
      exact xor_ne _ _ e6
  unfold openErr
  rw [if_neg (by omega), hno]
  rfl
theorem decode_flip {l : Bt} {a : Nat} (h : a / 8 < (sealT l).length) (hL : (sealT l).length ≤ 65536) (y : UInt8) (hy : y = (sealT l)[a / 8] ^^^ bitOf a) : decodeF ((sealT l).set (a / 8) y) = (frO, 14) := by
  have e := flip_bad h y hy
  unfold decodeF
  rw [if_neg (by rw [List.length_set]; omega), if_pos (by rw [e]; decide), e]
  rfl
/-- What is cut off isn't told as it was. -/
theorem decode_cut {f : Fr} {k : Nat} (hk : k < (encodeT f).length) (h0 : (decodeF ((encodeT f).take k)).2 = 0) : sameB f (decodeF ((encodeT f).take k)).1 = false := by
  cases hs : sameB f (decodeF ((encodeT f).take k)).1 with
  | false => rfl
  | true =>
    exfalso
    have e : decodeF ((encodeT f).take k) = ((decodeF ((encodeT f).take k)).1, 0) := by rw [← h0]
    obtain ⟨p1, _⟩ := decodeF_zero e
    rw [← sameB_iff.1 hs] at p1
    have := congrArg List.length p1
    rw [List.length_take] at this
    omega
end Go.Proofs.Ytfbfpnfgabamfaa
/- FrameSpoilt from its arguments. -/
namespace Go.Proofs.Ytfbfpnfgabamfaa
set_option linter.unusedSimpArgs false
open Go.RowKit
set_option maxRecDepth 100000
set_option linter.unusedVariables false
theorem ty_strF {m : Nat} {t : TypeId} {ds : List D} (h : Ty Try.prog (m + 1) t ds) (hu : Try.prog.underlying t = some .string) : ∃ l : Bt, ds = [tD l] := by
  have h : TyB (Ty Try.prog m) Try.prog t ds := h
  unfold TyB at h
  rw [hu] at h
  obtain ⟨s, rfl, _⟩ := h
  obtain ⟨l, hl⟩ := str_list s
  exact ⟨l, by rw [hl]⟩
theorem ty_longF {m : Nat} {t : TypeId} {ds : List D} (h : Ty Try.prog (m + 1) t ds) (hu : Try.prog.underlying t = some (.int .i64)) : ∃ z, ds = [iD z] ∧ in64 z := by
  have h : TyB (Ty Try.prog m) Try.prog t ds := h
  unfold TyB at h
  rw [hu] at h
  obtain ⟨z, rfl, hz⟩ := h
  exact ⟨z, rfl, by
    have hz : IntKind.i64.min ≤ z ∧ z ≤ IntKind.i64.max := by simpa [Lit.wf] using hz
    exact hz⟩
theorem ty_byF {m : Nat} {t : TypeId} {ds : List D} (h : Ty Try.prog (m + 1) t ds) (hu : Try.prog.underlying t = some (.int .u8)) : ∃ y : UInt8, ds = bR y := by
  have h : TyB (Ty Try.prog m) Try.prog t ds := h
  unfold TyB at h
  rw [hu] at h
  obtain ⟨z, rfl, hz⟩ := h
  have hz : IntKind.u8.min ≤ z ∧ z ≤ IntKind.u8.max := by simpa [Lit.wf] using hz
  have hz : 0 ≤ z ∧ z ≤ 255 := hz
  refine ⟨UInt8.ofNat z.toNat, ?_⟩
  have : ((UInt8.ofNat z.toNat).toNat : Int) = z := by rw [UInt8.toNat_ofNat']; omega
  show [D.v (.int .u8 z)] = [D.v (.int .u8 ((UInt8.ofNat z.toNat).toNat : Int))]
  rw [this]
theorem ty_labF {m : Nat} {ds : List D} (h : Ty Try.prog (m + 2) 63 ds) : ∃ l : Lab, ds = labR l := by
  have h : TyB (Ty Try.prog (m + 1)) Try.prog 63 ds := h
  unfold TyB at h
  rw [Try.underlying63] at h
  obtain ⟨dss, e0, h⟩ := h
  obtain ⟨d1, r1, e1, h1, h⟩ := h
  obtain ⟨d2, r2, e2, h2, h⟩ := h
  obtain rfl : r2 = [] := h
  subst e2 e1 e0
  obtain ⟨a, rfl⟩ := ty_strF h1 Try.underlying9
  obtain ⟨b, rfl⟩ := ty_strF h2 Try.underlying9
  exact ⟨(a, b), rfl⟩
theorem ty_serF {m : Nat} {ds : List D} (h : Ty Try.prog (m + 4) 27 ds) : ∃ s : Ser, ds = [tD s.1, .sl 2 (s.2.map labR)] := by
  have h : TyB (Ty Try.prog (m + 3)) Try.prog 27 ds := h
  unfold TyB at h
  rw [Try.underlying27] at h
  obtain ⟨dss, e0, h⟩ := h
  obtain ⟨d1, r1, e1, h1, h⟩ := h
  obtain ⟨d2, r2, e2, h2, h⟩ := h
  obtain rfl : r2 = [] := h
  subst e2 e1 e0
  obtain ⟨a, rfl⟩ := ty_strF h1 Try.underlying9
  have h2 : TyB (Ty Try.prog (m + 2)) Try.prog 25 d2 := h2
  unfold TyB at h2
  rw [Try.underlying25] at h2
  obtain ⟨rows, rfl, hr, _⟩ := h2
  obtain ⟨l, rfl, _⟩ := rows_map (f := labR) (p := fun _ => True) fun r hr' => by
    obtain ⟨y, hy⟩ := ty_labF (m := m) (hr r hr')
    exact ⟨y, hy, trivial⟩
  exact ⟨(a, l), rfl⟩
theorem ty_evF {m : Nat} {ds : List D} (h : Ty Try.prog (m + 5) 42 ds) : ∃ x : Evt, ds = evR x ∧ in64 x.2.1 := by
  have h : TyB (Ty Try.prog (m + 4)) Try.prog 42 ds := h
  unfold TyB at h
  rw [Try.underlying42] at h
  obtain ⟨dss, e0, h⟩ := h
  obtain ⟨d1, r1, e1, h1, h⟩ := h
  obtain ⟨d2, r2, e2, h2, h⟩ := h
  obtain ⟨d3, r3, e3, h3, h⟩ := h
  obtain rfl : r3 = [] := h
  subst e3 e2 e1 e0
  obtain ⟨a, rfl, _⟩ := ty_longF h1 Try.underlying2
  obtain ⟨b, rfl, hb⟩ := ty_longF h2 Try.underlying2
  obtain ⟨s, rfl⟩ := ty_serF (m := m) h3
  exact ⟨(a, b, s), rfl, hb⟩
def in64F (f : Fr) : Prop := (in64 f.k ∧ in64 f.a ∧ in64 f.e ∧ in64 f.b ∧ in64 f.c) ∧ (in64 f.g ∧ in64 f.s ∧ in64 f.n ∧ in64 f.t ∧ in64 f.w) ∧ ∀ x ∈ f.ev, in64 x.2.1
theorem ty_frame {x : D} (h : TyV Try.prog 30 x) : ∃ f : Fr, x = frD f ∧ in64F f := by
  unfold TyV at h
  rw [Try.underlying30] at h
  obtain ⟨ds, rfl, h⟩ := h
  have h : TyB (Ty Try.prog 8) Try.prog 30 ds := h
  unfold TyB at h
  rw [Try.underlying30] at h
  obtain ⟨dss, e0, h⟩ := h
  obtain ⟨d1, r1, e1, h1, h⟩ := h
  obtain ⟨d2, r2, e2, h2, h⟩ := h
  obtain ⟨d3, r3, e3, h3, h⟩ := h
  obtain ⟨d4, r4, e4, h4, h⟩ := h
  obtain ⟨d5, r5, e5, h5, h⟩ := h
  obtain ⟨d6, r6, e6, h6, h⟩ := h
  obtain ⟨d7, r7, e7, h7, h⟩ := h
  obtain ⟨d8, r8, e8, h8, h⟩ := h
  obtain ⟨d9, r9, e9, h9, h⟩ := h
  obtain ⟨d10, r10, e10, h10, h⟩ := h
  obtain ⟨d11, r11, e11, h11, h⟩ := h
  obtain rfl : r11 = [] := h
  subst e11 e10 e9 e8 e7 e6 e5 e4 e3 e2 e1 e0
  have h1 : TyB (Ty Try.prog 7) Try.prog 23 d1 := h1
  unfold TyB at h1
  rw [Try.underlying23] at h1
  obtain ⟨dss, e0, h1⟩ := h1
  obtain ⟨k1, s1, e1, g1, h1⟩ := h1
  obtain ⟨k2, s2, e2, g2, h1⟩ := h1
  obtain ⟨k3, s3, e3, g3, h1⟩ := h1
  obtain rfl : s3 = [] := h1
  subst e3 e2 e1 e0
  obtain ⟨zk, rfl, ik⟩ := ty_longF g1 (by first | exact Try.underlying3 | exact Try.underlying2)
  obtain ⟨za, rfl, ia⟩ := ty_longF g2 (by first | exact Try.underlying3 | exact Try.underlying2)
  obtain ⟨ze, rfl, ie⟩ := ty_longF g3 (by first | exact Try.underlying3 | exact Try.underlying2)
  obtain ⟨zb, rfl, ib⟩ := ty_longF h2 (by first | exact Try.underlying3 | exact Try.underlying2)
  obtain ⟨zc, rfl, ic⟩ := ty_longF h3 (by first | exact Try.underlying3 | exact Try.underlying2)
  obtain ⟨zg, rfl, ig⟩ := ty_longF h4 (by first | exact Try.underlying3 | exact Try.underlying2)
  obtain ⟨zs, rfl, is_⟩ := ty_longF h5 (by first | exact Try.underlying3 | exact Try.underlying2)
  obtain ⟨zn, rfl, in_⟩ := ty_longF h6 (by first | exact Try.underlying3 | exact Try.underlying2)
  obtain ⟨zt, rfl, it⟩ := ty_longF h7 (by first | exact Try.underlying3 | exact Try.underlying2)
  obtain ⟨zw, rfl, iw⟩ := ty_longF h8 (by first | exact Try.underlying3 | exact Try.underlying2)
  have h9 : TyB (Ty Try.prog 7) Try.prog 24 d9 := h9
  unfold TyB at h9
  rw [Try.underlying24] at h9
  obtain ⟨rows, rfl, hr, _⟩ := h9
  obtain ⟨l, rfl, hl⟩ := rows_map (f := evR) (p := fun x => in64 x.2.1) fun r hr' => ty_evF (m := 2) (hr r hr')
  obtain ⟨sr, rfl⟩ := ty_serF (m := 4) h10
  have h11 : TyB (Ty Try.prog 7) Try.prog 28 d11 := h11
  unfold TyB at h11
  rw [Try.underlying28] at h11
  obtain ⟨rows, rfl, hr, _⟩ := h11
  obtain ⟨d, rfl, _⟩ := rows_map (f := bR) (p := fun _ => True) fun r hr' => by
    obtain ⟨y, hy⟩ := ty_byF (m := 6) (hr r hr') Try.underlying5
    exact ⟨y, hy, trivial⟩
  exact ⟨⟨zk, za, ze, zb, zc, zg, zs, zn, zt, zw, l, sr, d⟩, rfl, ⟨ik, ia, ie, ib, ic⟩, ⟨ig, is_, in_, it, iw⟩, hl⟩
end Go.Proofs.Ytfbfpnfgabamfaa
