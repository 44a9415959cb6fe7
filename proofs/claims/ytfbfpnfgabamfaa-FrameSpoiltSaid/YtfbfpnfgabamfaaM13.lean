/- Parts FrO, FrP of the proof, put together. -/
import Derived.Test.YtfbfpnfgabamfaaM12
/- frame: parse, by conditions: a kind that isn't. -/
namespace Go.Proofs.Ytfbfpnfgabamfaa
set_option linter.unusedSimpArgs false
open Go.RowKit
set_option maxRecDepth 100000
set_option linter.unusedVariables false
/-- The frame that is nought. -/
def frO : Fr := ⟨0, 0, 0, 0, 0, 0, 0, 0, 0, 0, [], ([], []), []⟩
set_option maxHeartbeats 4000000 in
theorem parse_kerr (l : Bt) (hl : l.length ≤ 65536) (h : (uintS (l, 0)).2.2 ≠ 0) : Sat Try.prog 19 [.d (bsD l)] [] (.tup [.d (.agg (nilR frO)), iA (uintS (l, 0)).2.2]) [] := by
  have n1 := newG_sat l hl
  have k1 := kind_err (l, 0) hl h
  refine satD_of_vc (T := tiOf Try.prog) (E := E0) (gc := 32) (ys := [.ptr 0 0, .ptr 1 0]) PnF Try.func19 rfl rfl hE0 hm0 rfl rfl rfl rfl rfl rfl rfl rfl rfl ?_
  conv => whnf
  iterate 4
    repeat' (first | exact True.intro | ((first | refine Or.inr ⟨_, _, k1.at1 2 rfl rfl rfl, ?_⟩ | refine And.intro (fun _ => ?_) tf | refine And.intro ft (fun _ => ?_) | refine And.intro (by kernel_rfl) ?_ | refine And.intro (by decide) ?_ | refine And.intro (fun _ => ?_) (fun h => absurd h (by decide)) | refine And.intro (fun h => absurd h (by decide)) (fun _ => ?_) | refine ⟨_, _, n1.nw rfl, ?_⟩ | fail); conv => whnf) | (refine And.intro (fun _ => ?_) (fun _ => ?_) <;> conv => whnf) | fail)
    all_goals try (refine Or.inl ?_; conv => whnf)
  refine ⟨_, def_pan3 _ _ _ _ _ _ _ _ _ _ _ _ _ _ _ _, rfl, ?_⟩
  conv => whnf
  all_goals refine ⟨[], ?_⟩
  repeat (any_goals (first | exact True.intro | exact rfl | with_reducible_and_instances rfl | exact (by kernel_rfl) | refine And.intro ?_ ?_))
  all_goals conv => whnf
set_option maxHeartbeats 4000000 in
theorem parse_kbad (l : Bt) (hl : l.length ≤ 65536) (h0 : (uintS (l, 0)).2.2 = 0) (h : (uintS (l, 0)).1 < 1 ∨ 8 < (uintS (l, 0)).1) : Sat Try.prog 19 [.d (bsD l)] [] (.tup [.d (.agg (nilR frO)), iA 16]) [] := by
  have n1 := newG_sat l hl
  have k1 := kind_bad (l, 0) hl h0 h
  refine satD_of_vc (T := tiOf Try.prog) (E := E0) (gc := 32) (ys := [.ptr 0 0, .ptr 1 0]) PnF Try.func19 rfl rfl hE0 hm0 rfl rfl rfl rfl rfl rfl rfl rfl rfl ?_
  conv => whnf
  iterate 4
    repeat' (first | exact True.intro | ((first | refine Or.inr ⟨_, _, k1.at1 2 rfl rfl rfl, ?_⟩ | refine And.intro (fun _ => ?_) tf | refine And.intro ft (fun _ => ?_) | refine And.intro (by kernel_rfl) ?_ | refine And.intro (by decide) ?_ | refine And.intro (fun _ => ?_) (fun h => absurd h (by decide)) | refine And.intro (fun h => absurd h (by decide)) (fun _ => ?_) | refine ⟨_, _, n1.nw rfl, ?_⟩ | fail); conv => whnf) | (refine And.intro (fun _ => ?_) (fun _ => ?_) <;> conv => whnf) | fail)
    all_goals try (refine Or.inl ?_; conv => whnf)
  refine ⟨_, def_pan3 _ _ _ _ _ _ _ _ _ _ _ _ _ _ _ _, rfl, ?_⟩
  conv => whnf
  all_goals refine ⟨[], ?_⟩
  repeat (any_goals (first | exact True.intro | exact rfl | with_reducible_and_instances rfl | exact (by kernel_rfl) | refine And.intro ?_ ?_))
  all_goals conv => whnf
/-! ### what parse reads -/
/-- The reader behind so many numbers. -/
def itS : Nat → Rs → Rs
  | 0, s => s
  | i + 1, s => (uintS (itS i s)).2
/-- The number behind so many. -/
def vlS (i : Nat) (s : Rs) : Int := IntKind.i64.wrap ((uintS (itS i s)).1 : Int)
def vbL : List Nat → Nat → Rs → Nat → Int
  | [], _, _, _ => 0
  | j :: r, i, s, p => cond (Nat.beq j p) (vlS i s) (vbL r (i + 1) s p)
abbrev vb (k i : Nat) (s : Rs) (p : Nat) : Int := vbL ((idxK k).take i) 0 s p
/-- The frame that so many numbers make. -/
def frS (k i : Nat) (s : Rs) (ev : List Evt) (sr : Ser) (d : Bt) : Fr := ⟨k, vb k i s 1, vb k i s 2, vb k i s 3, vb k i s 4, vb k i s 5, vb k i s 6, vb k i s 7, vb k i s 8, vb k i s 9, ev, sr, d⟩
def finP (f : Fr) (s : Rs) : Fr × Nat := if (endS s).2 ≠ 0 then (frO, (endS s).2) else if rightF f = true then (f, 0) else (frO, 10)
def tailP (k : Nat) (s s1 : Rs) : Fr × Nat := match k with
  | 5 => match eventsS s1 with
    | (.error e, _) => (frO, e)
    | (.ok l, s2) => finP (frS 5 3 s l ([], []) []) s2
  | 8 => if (readS s1).2.1 ≠ 0 then (frO, (readS s1).2.1) else if (txtS (readS s1).2.2 4096).2.2 ≠ 0 then (frO, (txtS (readS s1).2.2 4096).2.2) else finP (frS 8 1 s [] (readS s1).1 (txtS (readS s1).2.2 4096).1) (txtS (readS s1).2.2 4096).2
  | k => finP (frS k (idxK k).length s [] ([], []) []) s1
def parseK (k : Nat) (s : Rs) : Fr × Nat := if (itS (idxK k).length s).2 ≠ 0 then (frO, (itS (idxK k).length s).2) else tailP k s (itS (idxK k).length s)
def parseF (l : Bt) : Fr × Nat := if (uintS (l, 0)).2.2 ≠ 0 then (frO, (uintS (l, 0)).2.2) else if (uintS (l, 0)).1 < 1 ∨ 8 < (uintS (l, 0)).1 then (frO, 16) else parseK (uintS (l, 0)).1 (uintS (l, 0)).2
theorem itS_len (s : Rs) : ∀ i, (itS i s).1.length ≤ s.1.length
  | 0 => Nat.le_refl _
  | i + 1 => Nat.le_trans (uintS_len (itS i s)) (itS_len s i)
theorem itS_stick {s : Rs} {i : Nat} (h : (itS i s).2 ≠ 0) : ∀ j, itS (i + j) s = itS i s
  | 0 => rfl
  | j + 1 => by
    show (uintS (itS (i + j) s)).2 = _
    rw [itS_stick h j]
    unfold uintS
    rw [if_pos h]
theorem parseK_err {k : Nat} {s : Rs} (i : Nat) (hi : i ≤ (idxK k).length) (h : (itS i s).2 ≠ 0) : parseK k s = (frO, (itS i s).2) := by
  have e : itS (idxK k).length s = itS i s := by
    have := itS_stick h ((idxK k).length - i)
    rwa [show i + ((idxK k).length - i) = (idxK k).length by omega] at this
  unfold parseK
  rw [e, if_pos h]
theorem parseK_go {k : Nat} {s : Rs} (h : (itS (idxK k).length s).2 = 0) : parseK k s = tailP k s (itS (idxK k).length s) := by
  unfold parseK
  rw [if_neg (by omega)]
/-- What a frame is told as: its slices as they stand. -/
def shR (k : Nat) (p : Fr × Nat) : List D := if p.2 ≠ 0 then nilR frO else match k with
  | 5 => [iD p.1.k, iD p.1.a, iD p.1.e, iD p.1.b, iD p.1.c, iD p.1.g, iD p.1.s, iD p.1.n, iD p.1.t, iD p.1.w, .sl 4 (p.1.ev.map evR), tD [], nilV, nilV]
  | 8 => [iD p.1.k, iD p.1.a, iD p.1.e, iD p.1.b, iD p.1.c, iD p.1.g, iD p.1.s, iD p.1.n, iD p.1.t, iD p.1.w, nilV, tD p.1.sr.1, .sl 2 (p.1.sr.2.map labR), bsD p.1.d]
  | _ => nilR p.1
abbrev outP (k : Nat) (p : Fr × Nat) : AV := .tup [.d (.agg (shR k p)), iA p.2]
theorem outP_err {k e : Nat} (h : e ≠ 0) : outP k (frO, e) = .tup [.d (.agg (nilR frO)), iA e] := by
  have : shR k (frO, e) = nilR frO := by unfold shR; rw [if_pos h]
  rw [outP, this]
theorem right_pre (f : Fr) (hf : FrOk f) {xs : List D} (hn : nilLe xs (frR f)) : Sat Try.prog 10 [.d (.agg xs)] [] (bA (rightF f)) [] :=
  (right_sat f hf).pre fun w F ρ vs h => by
    cases h with | cons h1 h2 =>
    cases h1 with | d h1 => exact .cons (.d (h1.nilLe hn)) h2
theorem wrap_in64 (u : Int) : in64 (IntKind.i64.wrap u) := by
  unfold in64
  rw [IntKind.wrap_i64]; omega
theorem vbL_in64 : ∀ (js : List Nat) (i : Nat) (s : Rs) (p : Nat), in64 (vbL js i s p)
  | [], _, _, _ => by unfold vbL in64; omega
  | j :: r, i, s, p => by
    unfold vbL
    cases Nat.beq j p with
    | true => exact wrap_in64 _
    | false => exact vbL_in64 r (i + 1) s p
theorem def_retN (k a e b c g s n t w : Int) (z u : AObj) : DefRun Try.prog 32 [.ptr 0 0, .ptr 1 0] .returning .returning
    [.cells (frN k a e b c g s n t w), .cells [iA 0], z, u] [.cells (frN k a e b c g s n t w), .cells [iA 0], .dead, .dead] := by
  refine defRun_of_vc (T := tiOf Try.prog) (E := E0) Try.func32 rfl rfl hE0 hm0 rfl rfl rfl rfl (.inr ⟨rfl, rfl, rfl⟩) rfl ?_
  conv => whnf
  iterate 6
    repeat' (first | exact True.intro | ((first | refine And.intro (fun _ => ?_) tf | refine And.intro ft (fun _ => ?_) | refine And.intro (by kernel_rfl) ?_ | refine And.intro (by decide) ?_ | refine And.intro (fun _ => ?_) (fun h => absurd h (by decide)) | refine And.intro (fun h => absurd h (by decide)) (fun _ => ?_) | refine ⟨_, _, eqNI (by kernel_rfl), ?_⟩ | fail); conv => whnf) | (refine And.intro (fun _ => ?_) (fun _ => ?_) <;> conv => whnf) | fail)
    all_goals try (refine Or.inl ?_; conv => whnf)
  all_goals try (exfalso; simp only [decide_eq_true_eq, decide_eq_false_iff_not, Bool.not_eq_true', Bool.not_eq_false', Bool.not_eq_true, Bool.not_eq_false, beq_iff_eq, bne_iff_ne, beq_eq_false_iff_ne, bne_eq_false_iff_eq, ne_eq, Decidable.not_not] at *; first | omega | contradiction | (simp_all; done) | (simp_all; omega))
  all_goals refine ⟨[], ?_⟩
  repeat (any_goals (first | exact True.intro | exact rfl | with_reducible_and_instances rfl | exact (by kernel_rfl) | refine And.intro ?_ ?_))
  all_goals conv => whnf
theorem def_ret5 (k a e b c g s n t w : Int) (ev : List Evt) (z u : AObj) : DefRun Try.prog 32 [.ptr 0 0, .ptr 1 0] .returning .returning
    [.cells [iA k, iA a, iA e, iA b, iA c, iA g, iA s, iA n, iA t, iA w, .d (.sl 4 (ev.map evR)), .d (tD []), .d nilV, .d nilV], .cells [iA 0], z, u] [.cells [iA k, iA a, iA e, iA b, iA c, iA g, iA s, iA n, iA t, iA w, .d (.sl 4 (ev.map evR)), .d (tD []), .d nilV, .d nilV], .cells [iA 0], .dead, .dead] := by
  refine defRun_of_vc (T := tiOf Try.prog) (E := E0) Try.func32 rfl rfl hE0 hm0 rfl rfl rfl rfl (.inr ⟨rfl, rfl, rfl⟩) rfl ?_
  conv => whnf
  iterate 6
    repeat' (first | exact True.intro | ((first | refine And.intro (fun _ => ?_) tf | refine And.intro ft (fun _ => ?_) | refine And.intro (by kernel_rfl) ?_ | refine And.intro (by decide) ?_ | refine And.intro (fun _ => ?_) (fun h => absurd h (by decide)) | refine And.intro (fun h => absurd h (by decide)) (fun _ => ?_) | refine ⟨_, _, eqNI (by kernel_rfl), ?_⟩ | fail); conv => whnf) | (refine And.intro (fun _ => ?_) (fun _ => ?_) <;> conv => whnf) | fail)
    all_goals try (refine Or.inl ?_; conv => whnf)
  all_goals try (exfalso; simp only [decide_eq_true_eq, decide_eq_false_iff_not, Bool.not_eq_true', Bool.not_eq_false', Bool.not_eq_true, Bool.not_eq_false, beq_iff_eq, bne_iff_ne, beq_eq_false_iff_ne, bne_eq_false_iff_eq, ne_eq, Decidable.not_not] at *; first | omega | contradiction | (simp_all; done) | (simp_all; omega))
  all_goals refine ⟨[], ?_⟩
  repeat (any_goals (first | exact True.intro | exact rfl | with_reducible_and_instances rfl | exact (by kernel_rfl) | refine And.intro ?_ ?_))
  all_goals conv => whnf
theorem frS_ok (k i : Nat) (s : Rs) (hk : k ≤ 8) {ev : List Evt} {sr : Ser} (d : Bt) (h1 : ev.length ≤ 1000000) (h2 : ∀ x ∈ ev, x.2.2.2.length ≤ 1000000) (h3 : sr.2.length ≤ 1000000) : FrOk (frS k i s ev sr d) :=
  ⟨(show in64 (k : Int) from ⟨by omega, by omega⟩), vbL_in64 _ _ _ _, vbL_in64 _ _ _ _, vbL_in64 _ _ _ _, vbL_in64 _ _ _ _, vbL_in64 _ _ _ _, vbL_in64 _ _ _ _, vbL_in64 _ _ _ _, vbL_in64 _ _ _ _, vbL_in64 _ _ _ _, h1, h2, h3⟩
theorem finP_end {f : Fr} {s : Rs} (h : (endS s).2 ≠ 0) : finP f s = (frO, (endS s).2) := if_pos h
theorem finP_no {f : Fr} {s : Rs} (h : (endS s).2 = 0) (hr : rightF f = false) : finP f s = (frO, 10) := by
  unfold finP
  rw [if_neg (by omega), if_neg (by rw [hr]; simp)]
theorem finP_ok {f : Fr} {s : Rs} (h : (endS s).2 = 0) (hr : rightF f = true) : finP f s = (f, 0) := by
  unfold finP
  rw [if_neg (by omega), if_pos hr]
end Go.Proofs.Ytfbfpnfgabamfaa
/- frame: parse at each kind. (Printed by frp.py.) -/
namespace Go.Proofs.Ytfbfpnfgabamfaa
set_option linter.unusedSimpArgs false
open Go.RowKit
set_option maxRecDepth 100000
set_option linter.unusedVariables false
set_option maxHeartbeats 8000000 in
theorem parse_1 (l : Bt) (hl : l.length ≤ 65536) (s : Rs) (hu : uintS (l, 0) = (1, s)) (hs : s.2 = 0) : Sat Try.prog 19 [.d (bsD l)] [] (outP 1 (parseK 1 s)) [] := by
  have n1 := newG_sat l hl
  have k1 := kind_ok (l, 0) hl (by rw [hu]; exact hs) (by rw [hu]; exact (by decide : 1 ≤ 1)) (by rw [hu]; exact (by decide : 1 ≤ 8))
  rw [hu] at k1
  have hsl : s.1.length ≤ 65536 := by have := uintS_len (l, 0); rw [hu] at this; exact Nat.le_trans this hl
  have hil : ∀ i, (itS i s).1.length ≤ 65536 := fun i => Nat.le_trans (itS_len s i) hsl
  have f2 := fields_n 1 (by decide) (by decide) 0 0 0 0 0 0 0 0 0
  have c1 := check_ok
  have hpe := fun i => parseK_err (k := 1) (s := s) i
  have hpg := parseK_go (k := 1) (s := s)
  generalize hP : parseK 1 s = PP at *
  refine satD_of_vc (T := tiOf Try.prog) (E := E0) (gc := 32) (ys := [.ptr 0 0, .ptr 1 0]) PnF Try.func19 rfl rfl hE0 hm0 rfl rfl rfl rfl rfl rfl rfl rfl rfl ?_
  conv => whnf
  iterate 5
    repeat' (first | exact True.intro | ((first | refine And.intro (fun _ => ?_) tf | refine And.intro ft (fun _ => ?_) | refine And.intro (by kernel_rfl) ?_ | refine And.intro (by decide) ?_ | refine And.intro (fun _ => ?_) (fun h => absurd h (by decide)) | refine And.intro (fun h => absurd h (by decide)) (fun _ => ?_) | refine ⟨_, _, n1.nw rfl, ?_⟩ | refine ⟨_, _, k1.at1 2 rfl rfl rfl, ?_⟩ | refine ⟨_, _, f2.at1 0 rfl rfl rfl, ?_⟩ | refine ⟨_, _, lenP (by kernel_rfl), ?_⟩ | fail); conv => whnf) | (refine And.intro (fun _ => ?_) (fun _ => ?_) <;> conv => whnf) | fail)
    all_goals try (refine Or.inl ?_; conv => whnf)
  all_goals try (exfalso; simp only [decide_eq_true_eq, decide_eq_false_iff_not, Bool.not_eq_true', Bool.not_eq_false', Bool.not_eq_true, Bool.not_eq_false, beq_iff_eq, bne_iff_ne, beq_eq_false_iff_ne, bne_eq_false_iff_eq, ne_eq, Decidable.not_not] at *; first | omega | contradiction | (simp_all; done) | (simp_all; omega))
  refine ⟨Nat, fun i => i ≤ 2 ∧ (itS i s).2 = 0, fun i => ([(16, iA i), (15, iA 2), (14, .rel 3 (slP 2)), (4, .ptr 2 0), (3, .ptr 1 0), (2, .ptr 0 0)], [.cells (frN 1 (vb 1 i s 1) (vb 1 i s 2) (vb 1 i s 3) (vb 1 i s 4) (vb 1 i s 5) (vb 1 i s 6) (vb 1 i s 7) (vb 1 i s 8) (vb 1 i s 9)), .cells [iA 0], rsO (itS i s), .cells (ptrsK 1)]), fun i => 2 - i, ⟨0, ⟨Nat.zero_le _, hs⟩, ?_⟩, ?_⟩
  · all_goals refine ⟨[], ?_⟩
    repeat (any_goals (first | exact True.intro | exact rfl | with_reducible_and_instances rfl | exact (by kernel_rfl) | refine And.intro ?_ ?_))
    all_goals conv => whnf
  rintro i ⟨hi, hI⟩
  have hi : i ≤ 2 := hi
  obtain rfl | rfl | rfl : i = 0 ∨ i = 1 ∨ i = 2 := by omega
  · have u1 := uintG_sat (itS 0 s) (hil 0)
    have r1 := errG_sat (itS 1 s)
    conv => whnf
    by_cases he : (itS 1 s).2 = 0
    · rw [he] at r1
      iterate 5
        repeat' (first | exact True.intro | ((first | refine And.intro (fun _ => ?_) tf | refine And.intro ft (fun _ => ?_) | refine And.intro (by kernel_rfl) ?_ | refine And.intro (by decide) ?_ | refine And.intro (fun _ => ?_) (fun h => absurd h (by decide)) | refine And.intro (fun h => absurd h (by decide)) (fun _ => ?_) | refine ⟨_, _, ixP (by kernel_rfl) (by kernel_rfl) (by decide), ?_⟩ | refine ⟨_, _, u1.at1 2 rfl rfl rfl, ?_⟩ | refine ⟨_, _, r1.at1 2 rfl rfl rfl, ?_⟩ | refine ⟨_, _, c1.pu rfl rfl, ?_⟩ | fail); conv => whnf) | (refine And.intro (fun _ => ?_) (fun _ => ?_) <;> conv => whnf) | fail)
        all_goals try (refine Or.inl ?_; conv => whnf)
      refine ⟨1, ⟨by decide, he⟩, by decide, ?_⟩
      all_goals refine ⟨[], ?_⟩
      repeat (any_goals (first | exact True.intro | exact rfl | with_reducible_and_instances rfl | exact (by kernel_rfl) | refine And.intro ?_ ?_))
      all_goals conv => whnf
    · have c2 := check_no ((itS 1 s).2 : Int) (by omega)
      obtain rfl := hpe 1 (by decide) he
      rw [outP_err he]
      iterate 5
        repeat' (first | exact True.intro | ((first | refine Or.inr ⟨_, _, c2.pu rfl rfl, ?_⟩ | refine And.intro (fun _ => ?_) tf | refine And.intro ft (fun _ => ?_) | refine And.intro (by kernel_rfl) ?_ | refine And.intro (by decide) ?_ | refine And.intro (fun _ => ?_) (fun h => absurd h (by decide)) | refine And.intro (fun h => absurd h (by decide)) (fun _ => ?_) | refine ⟨_, _, ixP (by kernel_rfl) (by kernel_rfl) (by decide), ?_⟩ | refine ⟨_, _, u1.at1 2 rfl rfl rfl, ?_⟩ | refine ⟨_, _, r1.at1 2 rfl rfl rfl, ?_⟩ | fail); conv => whnf) | (refine And.intro (fun _ => ?_) (fun _ => ?_) <;> conv => whnf) | fail)
        all_goals try (refine Or.inl ?_; conv => whnf)
      refine ⟨_, def_pan4 _ _ _ _ _ _ _ _ _ _ _ _ _ _ _ _ _, rfl, ?_⟩
      conv => whnf
      all_goals refine ⟨[], ?_⟩
      repeat (any_goals (first | exact True.intro | exact rfl | with_reducible_and_instances rfl | exact (by kernel_rfl) | refine And.intro ?_ ?_))
      all_goals conv => whnf
  · have u1 := uintG_sat (itS 1 s) (hil 1)
    have r1 := errG_sat (itS 2 s)
    conv => whnf
    by_cases he : (itS 2 s).2 = 0
    · rw [he] at r1
      iterate 5
        repeat' (first | exact True.intro | ((first | refine And.intro (fun _ => ?_) tf | refine And.intro ft (fun _ => ?_) | refine And.intro (by kernel_rfl) ?_ | refine And.intro (by decide) ?_ | refine And.intro (fun _ => ?_) (fun h => absurd h (by decide)) | refine And.intro (fun h => absurd h (by decide)) (fun _ => ?_) | refine ⟨_, _, ixP (by kernel_rfl) (by kernel_rfl) (by decide), ?_⟩ | refine ⟨_, _, u1.at1 2 rfl rfl rfl, ?_⟩ | refine ⟨_, _, r1.at1 2 rfl rfl rfl, ?_⟩ | refine ⟨_, _, c1.pu rfl rfl, ?_⟩ | fail); conv => whnf) | (refine And.intro (fun _ => ?_) (fun _ => ?_) <;> conv => whnf) | fail)
        all_goals try (refine Or.inl ?_; conv => whnf)
      refine ⟨2, ⟨by decide, he⟩, by decide, ?_⟩
      all_goals refine ⟨[], ?_⟩
      repeat (any_goals (first | exact True.intro | exact rfl | with_reducible_and_instances rfl | exact (by kernel_rfl) | refine And.intro ?_ ?_))
      all_goals conv => whnf
    · have c2 := check_no ((itS 2 s).2 : Int) (by omega)
      obtain rfl := hpe 2 (by decide) he
      rw [outP_err he]
      iterate 5
        repeat' (first | exact True.intro | ((first | refine Or.inr ⟨_, _, c2.pu rfl rfl, ?_⟩ | refine And.intro (fun _ => ?_) tf | refine And.intro ft (fun _ => ?_) | refine And.intro (by kernel_rfl) ?_ | refine And.intro (by decide) ?_ | refine And.intro (fun _ => ?_) (fun h => absurd h (by decide)) | refine And.intro (fun h => absurd h (by decide)) (fun _ => ?_) | refine ⟨_, _, ixP (by kernel_rfl) (by kernel_rfl) (by decide), ?_⟩ | refine ⟨_, _, u1.at1 2 rfl rfl rfl, ?_⟩ | refine ⟨_, _, r1.at1 2 rfl rfl rfl, ?_⟩ | fail); conv => whnf) | (refine And.intro (fun _ => ?_) (fun _ => ?_) <;> conv => whnf) | fail)
        all_goals try (refine Or.inl ?_; conv => whnf)
      refine ⟨_, def_pan4 _ _ _ _ _ _ _ _ _ _ _ _ _ _ _ _ _, rfl, ?_⟩
      conv => whnf
      all_goals refine ⟨[], ?_⟩
      repeat (any_goals (first | exact True.intro | exact rfl | with_reducible_and_instances rfl | exact (by kernel_rfl) | refine And.intro ?_ ?_))
      all_goals conv => whnf
  have hq := hpg hI
  replace hq : PP = finP (frS 1 2 s [] ([], []) []) (itS 2 s) := hq
  have e1 := endG_sat (itS 2 s) (hil 2)
  conv => whnf
  by_cases he : (endS (itS 2 s)).2 = 0
  case neg =>
    have c2 := check_no ((endS (itS 2 s)).2 : Int) (by omega)
    rw [finP_end he] at hq
    subst hq
    rw [outP_err he]
    iterate 5
      repeat' (first | exact True.intro | ((first | refine Or.inr ⟨_, _, c2.pu rfl rfl, ?_⟩ | refine And.intro (fun _ => ?_) tf | refine And.intro ft (fun _ => ?_) | refine And.intro (by kernel_rfl) ?_ | refine And.intro (by decide) ?_ | refine And.intro (fun _ => ?_) (fun h => absurd h (by decide)) | refine And.intro (fun h => absurd h (by decide)) (fun _ => ?_) | refine ⟨_, _, e1.at1 2 rfl rfl rfl, ?_⟩ | fail); conv => whnf) | (refine And.intro (fun _ => ?_) (fun _ => ?_) <;> conv => whnf) | fail)
      all_goals try (refine Or.inl ?_; conv => whnf)
    refine ⟨_, def_pan4 _ _ _ _ _ _ _ _ _ _ _ _ _ _ _ _ _, rfl, ?_⟩
    conv => whnf
    all_goals refine ⟨[], ?_⟩
    repeat (any_goals (first | exact True.intro | exact rfl | with_reducible_and_instances rfl | exact (by kernel_rfl) | refine And.intro ?_ ?_))
    all_goals conv => whnf
  rw [he] at e1
  have hfo := frS_ok 1 2 s (by decide) (ev := []) (sr := ([], [])) [] (by simp) (by simp) (by simp)
  have r1 := right_pre (frS 1 2 s [] ([], []) []) hfo (xs := nilR (frS 1 2 s [] ([], []) [])) (by repeat' (first | exact trivial | refine And.intro ?_ ?_ | exact .inl rfl | exact .inr ⟨rfl, _, rfl⟩))
  cases hr : rightF (frS 1 2 s [] ([], []) []) with
  | false =>
    rw [hr] at r1
    rw [finP_no he hr] at hq
    subst hq
    rw [outP_err (by decide)]
    iterate 5
      repeat' (first | exact True.intro | ((first | refine And.intro (fun _ => ?_) tf | refine And.intro ft (fun _ => ?_) | refine And.intro (by kernel_rfl) ?_ | refine And.intro (by decide) ?_ | refine And.intro (fun _ => ?_) (fun h => absurd h (by decide)) | refine And.intro (fun h => absurd h (by decide)) (fun _ => ?_) | refine ⟨_, _, e1.at1 2 rfl rfl rfl, ?_⟩ | refine ⟨_, _, c1.pu rfl rfl, ?_⟩ | refine ⟨_, _, r1.pu rfl rfl, ?_⟩ | refine ⟨_, _, mkI 10, ?_⟩ | fail); conv => whnf) | (refine And.intro (fun _ => ?_) (fun _ => ?_) <;> conv => whnf) | fail)
      all_goals try (refine Or.inl ?_; conv => whnf)
    refine ⟨_, def_pan4 _ _ _ _ _ _ _ _ _ _ _ _ _ _ _ _ _, rfl, ?_⟩
    conv => whnf
    all_goals refine ⟨[], ?_⟩
    repeat (any_goals (first | exact True.intro | exact rfl | with_reducible_and_instances rfl | exact (by kernel_rfl) | refine And.intro ?_ ?_))
    all_goals conv => whnf
  | true =>
    rw [hr] at r1
    rw [finP_ok he hr] at hq
    subst hq
    iterate 5
      repeat' (first | exact True.intro | ((first | refine And.intro (fun _ => ?_) tf | refine And.intro ft (fun _ => ?_) | refine And.intro (by kernel_rfl) ?_ | refine And.intro (by decide) ?_ | refine And.intro (fun _ => ?_) (fun h => absurd h (by decide)) | refine And.intro (fun h => absurd h (by decide)) (fun _ => ?_) | refine ⟨_, _, e1.at1 2 rfl rfl rfl, ?_⟩ | refine ⟨_, _, c1.pu rfl rfl, ?_⟩ | refine ⟨_, _, r1.pu rfl rfl, ?_⟩ | fail); conv => whnf) | (refine And.intro (fun _ => ?_) (fun _ => ?_) <;> conv => whnf) | fail)
      all_goals try (refine Or.inl ?_; conv => whnf)
    refine ⟨_, def_retN _ _ _ _ _ _ _ _ _ _ _ _, rfl, ?_⟩
    conv => whnf
    all_goals refine ⟨[], ?_⟩
    repeat (any_goals (first | exact True.intro | exact rfl | with_reducible_and_instances rfl | exact (by kernel_rfl) | refine And.intro ?_ ?_))
    all_goals conv => whnf
set_option maxHeartbeats 8000000 in
theorem parse_2 (l : Bt) (hl : l.length ≤ 65536) (s : Rs) (hu : uintS (l, 0) = (2, s)) (hs : s.2 = 0) : Sat Try.prog 19 [.d (bsD l)] [] (outP 2 (parseK 2 s)) [] := by
  have n1 := newG_sat l hl
  have k1 := kind_ok (l, 0) hl (by rw [hu]; exact hs) (by rw [hu]; exact (by decide : 1 ≤ 2)) (by rw [hu]; exact (by decide : 2 ≤ 8))
  rw [hu] at k1
  have hsl : s.1.length ≤ 65536 := by have := uintS_len (l, 0); rw [hu] at this; exact Nat.le_trans this hl
  have hil : ∀ i, (itS i s).1.length ≤ 65536 := fun i => Nat.le_trans (itS_len s i) hsl
  have f2 := fields_n 2 (by decide) (by decide) 0 0 0 0 0 0 0 0 0
  have c1 := check_ok
  have hpe := fun i => parseK_err (k := 2) (s := s) i
  have hpg := parseK_go (k := 2) (s := s)
  generalize hP : parseK 2 s = PP at *
  refine satD_of_vc (T := tiOf Try.prog) (E := E0) (gc := 32) (ys := [.ptr 0 0, .ptr 1 0]) PnF Try.func19 rfl rfl hE0 hm0 rfl rfl rfl rfl rfl rfl rfl rfl rfl ?_
  conv => whnf
  iterate 5
    repeat' (first | exact True.intro | ((first | refine And.intro (fun _ => ?_) tf | refine And.intro ft (fun _ => ?_) | refine And.intro (by kernel_rfl) ?_ | refine And.intro (by decide) ?_ | refine And.intro (fun _ => ?_) (fun h => absurd h (by decide)) | refine And.intro (fun h => absurd h (by decide)) (fun _ => ?_) | refine ⟨_, _, n1.nw rfl, ?_⟩ | refine ⟨_, _, k1.at1 2 rfl rfl rfl, ?_⟩ | refine ⟨_, _, f2.at1 0 rfl rfl rfl, ?_⟩ | refine ⟨_, _, lenP (by kernel_rfl), ?_⟩ | fail); conv => whnf) | (refine And.intro (fun _ => ?_) (fun _ => ?_) <;> conv => whnf) | fail)
    all_goals try (refine Or.inl ?_; conv => whnf)
  all_goals try (exfalso; simp only [decide_eq_true_eq, decide_eq_false_iff_not, Bool.not_eq_true', Bool.not_eq_false', Bool.not_eq_true, Bool.not_eq_false, beq_iff_eq, bne_iff_ne, beq_eq_false_iff_ne, bne_eq_false_iff_eq, ne_eq, Decidable.not_not] at *; first | omega | contradiction | (simp_all; done) | (simp_all; omega))
  refine ⟨Nat, fun i => i ≤ 3 ∧ (itS i s).2 = 0, fun i => ([(16, iA i), (15, iA 3), (14, .rel 3 (slP 3)), (4, .ptr 2 0), (3, .ptr 1 0), (2, .ptr 0 0)], [.cells (frN 2 (vb 2 i s 1) (vb 2 i s 2) (vb 2 i s 3) (vb 2 i s 4) (vb 2 i s 5) (vb 2 i s 6) (vb 2 i s 7) (vb 2 i s 8) (vb 2 i s 9)), .cells [iA 0], rsO (itS i s), .cells (ptrsK 2)]), fun i => 3 - i, ⟨0, ⟨Nat.zero_le _, hs⟩, ?_⟩, ?_⟩
  · all_goals refine ⟨[], ?_⟩
    repeat (any_goals (first | exact True.intro | exact rfl | with_reducible_and_instances rfl | exact (by kernel_rfl) | refine And.intro ?_ ?_))
    all_goals conv => whnf
  rintro i ⟨hi, hI⟩
  have hi : i ≤ 3 := hi
  obtain rfl | rfl | rfl | rfl : i = 0 ∨ i = 1 ∨ i = 2 ∨ i = 3 := by omega
  · have u1 := uintG_sat (itS 0 s) (hil 0)
    have r1 := errG_sat (itS 1 s)
    conv => whnf
    by_cases he : (itS 1 s).2 = 0
    · rw [he] at r1
      iterate 5
        repeat' (first | exact True.intro | ((first | refine And.intro (fun _ => ?_) tf | refine And.intro ft (fun _ => ?_) | refine And.intro (by kernel_rfl) ?_ | refine And.intro (by decide) ?_ | refine And.intro (fun _ => ?_) (fun h => absurd h (by decide)) | refine And.intro (fun h => absurd h (by decide)) (fun _ => ?_) | refine ⟨_, _, ixP (by kernel_rfl) (by kernel_rfl) (by decide), ?_⟩ | refine ⟨_, _, u1.at1 2 rfl rfl rfl, ?_⟩ | refine ⟨_, _, r1.at1 2 rfl rfl rfl, ?_⟩ | refine ⟨_, _, c1.pu rfl rfl, ?_⟩ | fail); conv => whnf) | (refine And.intro (fun _ => ?_) (fun _ => ?_) <;> conv => whnf) | fail)
        all_goals try (refine Or.inl ?_; conv => whnf)
      refine ⟨1, ⟨by decide, he⟩, by decide, ?_⟩
      all_goals refine ⟨[], ?_⟩
      repeat (any_goals (first | exact True.intro | exact rfl | with_reducible_and_instances rfl | exact (by kernel_rfl) | refine And.intro ?_ ?_))
      all_goals conv => whnf
    · have c2 := check_no ((itS 1 s).2 : Int) (by omega)
      obtain rfl := hpe 1 (by decide) he
      rw [outP_err he]
      iterate 5
        repeat' (first | exact True.intro | ((first | refine Or.inr ⟨_, _, c2.pu rfl rfl, ?_⟩ | refine And.intro (fun _ => ?_) tf | refine And.intro ft (fun _ => ?_) | refine And.intro (by kernel_rfl) ?_ | refine And.intro (by decide) ?_ | refine And.intro (fun _ => ?_) (fun h => absurd h (by decide)) | refine And.intro (fun h => absurd h (by decide)) (fun _ => ?_) | refine ⟨_, _, ixP (by kernel_rfl) (by kernel_rfl) (by decide), ?_⟩ | refine ⟨_, _, u1.at1 2 rfl rfl rfl, ?_⟩ | refine ⟨_, _, r1.at1 2 rfl rfl rfl, ?_⟩ | fail); conv => whnf) | (refine And.intro (fun _ => ?_) (fun _ => ?_) <;> conv => whnf) | fail)
        all_goals try (refine Or.inl ?_; conv => whnf)
      refine ⟨_, def_pan4 _ _ _ _ _ _ _ _ _ _ _ _ _ _ _ _ _, rfl, ?_⟩
      conv => whnf
      all_goals refine ⟨[], ?_⟩
      repeat (any_goals (first | exact True.intro | exact rfl | with_reducible_and_instances rfl | exact (by kernel_rfl) | refine And.intro ?_ ?_))
      all_goals conv => whnf
  · have u1 := uintG_sat (itS 1 s) (hil 1)
    have r1 := errG_sat (itS 2 s)
    conv => whnf
    by_cases he : (itS 2 s).2 = 0
    · rw [he] at r1
      iterate 5
        repeat' (first | exact True.intro | ((first | refine And.intro (fun _ => ?_) tf | refine And.intro ft (fun _ => ?_) | refine And.intro (by kernel_rfl) ?_ | refine And.intro (by decide) ?_ | refine And.intro (fun _ => ?_) (fun h => absurd h (by decide)) | refine And.intro (fun h => absurd h (by decide)) (fun _ => ?_) | refine ⟨_, _, ixP (by kernel_rfl) (by kernel_rfl) (by decide), ?_⟩ | refine ⟨_, _, u1.at1 2 rfl rfl rfl, ?_⟩ | refine ⟨_, _, r1.at1 2 rfl rfl rfl, ?_⟩ | refine ⟨_, _, c1.pu rfl rfl, ?_⟩ | fail); conv => whnf) | (refine And.intro (fun _ => ?_) (fun _ => ?_) <;> conv => whnf) | fail)
        all_goals try (refine Or.inl ?_; conv => whnf)
      refine ⟨2, ⟨by decide, he⟩, by decide, ?_⟩
      all_goals refine ⟨[], ?_⟩
      repeat (any_goals (first | exact True.intro | exact rfl | with_reducible_and_instances rfl | exact (by kernel_rfl) | refine And.intro ?_ ?_))
      all_goals conv => whnf
    · have c2 := check_no ((itS 2 s).2 : Int) (by omega)
      obtain rfl := hpe 2 (by decide) he
      rw [outP_err he]
      iterate 5
        repeat' (first | exact True.intro | ((first | refine Or.inr ⟨_, _, c2.pu rfl rfl, ?_⟩ | refine And.intro (fun _ => ?_) tf | refine And.intro ft (fun _ => ?_) | refine And.intro (by kernel_rfl) ?_ | refine And.intro (by decide) ?_ | refine And.intro (fun _ => ?_) (fun h => absurd h (by decide)) | refine And.intro (fun h => absurd h (by decide)) (fun _ => ?_) | refine ⟨_, _, ixP (by kernel_rfl) (by kernel_rfl) (by decide), ?_⟩ | refine ⟨_, _, u1.at1 2 rfl rfl rfl, ?_⟩ | refine ⟨_, _, r1.at1 2 rfl rfl rfl, ?_⟩ | fail); conv => whnf) | (refine And.intro (fun _ => ?_) (fun _ => ?_) <;> conv => whnf) | fail)
        all_goals try (refine Or.inl ?_; conv => whnf)
      refine ⟨_, def_pan4 _ _ _ _ _ _ _ _ _ _ _ _ _ _ _ _ _, rfl, ?_⟩
      conv => whnf
      all_goals refine ⟨[], ?_⟩
      repeat (any_goals (first | exact True.intro | exact rfl | with_reducible_and_instances rfl | exact (by kernel_rfl) | refine And.intro ?_ ?_))
      all_goals conv => whnf
  · have u1 := uintG_sat (itS 2 s) (hil 2)
    have r1 := errG_sat (itS 3 s)
    conv => whnf
    by_cases he : (itS 3 s).2 = 0
    · rw [he] at r1
      iterate 5
        repeat' (first | exact True.intro | ((first | refine And.intro (fun _ => ?_) tf | refine And.intro ft (fun _ => ?_) | refine And.intro (by kernel_rfl) ?_ | refine And.intro (by decide) ?_ | refine And.intro (fun _ => ?_) (fun h => absurd h (by decide)) | refine And.intro (fun h => absurd h (by decide)) (fun _ => ?_) | refine ⟨_, _, ixP (by kernel_rfl) (by kernel_rfl) (by decide), ?_⟩ | refine ⟨_, _, u1.at1 2 rfl rfl rfl, ?_⟩ | refine ⟨_, _, r1.at1 2 rfl rfl rfl, ?_⟩ | refine ⟨_, _, c1.pu rfl rfl, ?_⟩ | fail); conv => whnf) | (refine And.intro (fun _ => ?_) (fun _ => ?_) <;> conv => whnf) | fail)
        all_goals try (refine Or.inl ?_; conv => whnf)
      refine ⟨3, ⟨by decide, he⟩, by decide, ?_⟩
      all_goals refine ⟨[], ?_⟩
      repeat (any_goals (first | exact True.intro | exact rfl | with_reducible_and_instances rfl | exact (by kernel_rfl) | refine And.intro ?_ ?_))
      all_goals conv => whnf
    · have c2 := check_no ((itS 3 s).2 : Int) (by omega)
      obtain rfl := hpe 3 (by decide) he
      rw [outP_err he]
      iterate 5
        repeat' (first | exact True.intro | ((first | refine Or.inr ⟨_, _, c2.pu rfl rfl, ?_⟩ | refine And.intro (fun _ => ?_) tf | refine And.intro ft (fun _ => ?_) | refine And.intro (by kernel_rfl) ?_ | refine And.intro (by decide) ?_ | refine And.intro (fun _ => ?_) (fun h => absurd h (by decide)) | refine And.intro (fun h => absurd h (by decide)) (fun _ => ?_) | refine ⟨_, _, ixP (by kernel_rfl) (by kernel_rfl) (by decide), ?_⟩ | refine ⟨_, _, u1.at1 2 rfl rfl rfl, ?_⟩ | refine ⟨_, _, r1.at1 2 rfl rfl rfl, ?_⟩ | fail); conv => whnf) | (refine And.intro (fun _ => ?_) (fun _ => ?_) <;> conv => whnf) | fail)
        all_goals try (refine Or.inl ?_; conv => whnf)
      refine ⟨_, def_pan4 _ _ _ _ _ _ _ _ _ _ _ _ _ _ _ _ _, rfl, ?_⟩
      conv => whnf
      all_goals refine ⟨[], ?_⟩
      repeat (any_goals (first | exact True.intro | exact rfl | with_reducible_and_instances rfl | exact (by kernel_rfl) | refine And.intro ?_ ?_))
      all_goals conv => whnf
  have hq := hpg hI
  replace hq : PP = finP (frS 2 3 s [] ([], []) []) (itS 3 s) := hq
  have e1 := endG_sat (itS 3 s) (hil 3)
  conv => whnf
  by_cases he : (endS (itS 3 s)).2 = 0
  case neg =>
    have c2 := check_no ((endS (itS 3 s)).2 : Int) (by omega)
    rw [finP_end he] at hq
    subst hq
    rw [outP_err he]
    iterate 5
      repeat' (first | exact True.intro | ((first | refine Or.inr ⟨_, _, c2.pu rfl rfl, ?_⟩ | refine And.intro (fun _ => ?_) tf | refine And.intro ft (fun _ => ?_) | refine And.intro (by kernel_rfl) ?_ | refine And.intro (by decide) ?_ | refine And.intro (fun _ => ?_) (fun h => absurd h (by decide)) | refine And.intro (fun h => absurd h (by decide)) (fun _ => ?_) | refine ⟨_, _, e1.at1 2 rfl rfl rfl, ?_⟩ | fail); conv => whnf) | (refine And.intro (fun _ => ?_) (fun _ => ?_) <;> conv => whnf) | fail)
      all_goals try (refine Or.inl ?_; conv => whnf)
    refine ⟨_, def_pan4 _ _ _ _ _ _ _ _ _ _ _ _ _ _ _ _ _, rfl, ?_⟩
    conv => whnf
    all_goals refine ⟨[], ?_⟩
    repeat (any_goals (first | exact True.intro | exact rfl | with_reducible_and_instances rfl | exact (by kernel_rfl) | refine And.intro ?_ ?_))
    all_goals conv => whnf
  rw [he] at e1
  have hfo := frS_ok 2 3 s (by decide) (ev := []) (sr := ([], [])) [] (by simp) (by simp) (by simp)
  have r1 := right_pre (frS 2 3 s [] ([], []) []) hfo (xs := nilR (frS 2 3 s [] ([], []) [])) (by repeat' (first | exact trivial | refine And.intro ?_ ?_ | exact .inl rfl | exact .inr ⟨rfl, _, rfl⟩))
  cases hr : rightF (frS 2 3 s [] ([], []) []) with
  | false =>
    rw [hr] at r1
    rw [finP_no he hr] at hq
    subst hq
    rw [outP_err (by decide)]
    iterate 5
      repeat' (first | exact True.intro | ((first | refine And.intro (fun _ => ?_) tf | refine And.intro ft (fun _ => ?_) | refine And.intro (by kernel_rfl) ?_ | refine And.intro (by decide) ?_ | refine And.intro (fun _ => ?_) (fun h => absurd h (by decide)) | refine And.intro (fun h => absurd h (by decide)) (fun _ => ?_) | refine ⟨_, _, e1.at1 2 rfl rfl rfl, ?_⟩ | refine ⟨_, _, c1.pu rfl rfl, ?_⟩ | refine ⟨_, _, r1.pu rfl rfl, ?_⟩ | refine ⟨_, _, mkI 10, ?_⟩ | fail); conv => whnf) | (refine And.intro (fun _ => ?_) (fun _ => ?_) <;> conv => whnf) | fail)
      all_goals try (refine Or.inl ?_; conv => whnf)
    refine ⟨_, def_pan4 _ _ _ _ _ _ _ _ _ _ _ _ _ _ _ _ _, rfl, ?_⟩
    conv => whnf
    all_goals refine ⟨[], ?_⟩
    repeat (any_goals (first | exact True.intro | exact rfl | with_reducible_and_instances rfl | exact (by kernel_rfl) | refine And.intro ?_ ?_))
    all_goals conv => whnf
  | true =>
    rw [hr] at r1
    rw [finP_ok he hr] at hq
    subst hq
    iterate 5
      repeat' (first | exact True.intro | ((first | refine And.intro (fun _ => ?_) tf | refine And.intro ft (fun _ => ?_) | refine And.intro (by kernel_rfl) ?_ | refine And.intro (by decide) ?_ | refine And.intro (fun _ => ?_) (fun h => absurd h (by decide)) | refine And.intro (fun h => absurd h (by decide)) (fun _ => ?_) | refine ⟨_, _, e1.at1 2 rfl rfl rfl, ?_⟩ | refine ⟨_, _, c1.pu rfl rfl, ?_⟩ | refine ⟨_, _, r1.pu rfl rfl, ?_⟩ | fail); conv => whnf) | (refine And.intro (fun _ => ?_) (fun _ => ?_) <;> conv => whnf) | fail)
      all_goals try (refine Or.inl ?_; conv => whnf)
    refine ⟨_, def_retN _ _ _ _ _ _ _ _ _ _ _ _, rfl, ?_⟩
    conv => whnf
    all_goals refine ⟨[], ?_⟩
    repeat (any_goals (first | exact True.intro | exact rfl | with_reducible_and_instances rfl | exact (by kernel_rfl) | refine And.intro ?_ ?_))
    all_goals conv => whnf
set_option maxHeartbeats 8000000 in
theorem parse_3 (l : Bt) (hl : l.length ≤ 65536) (s : Rs) (hu : uintS (l, 0) = (3, s)) (hs : s.2 = 0) : Sat Try.prog 19 [.d (bsD l)] [] (outP 3 (parseK 3 s)) [] := by
  have n1 := newG_sat l hl
  have k1 := kind_ok (l, 0) hl (by rw [hu]; exact hs) (by rw [hu]; exact (by decide : 1 ≤ 3)) (by rw [hu]; exact (by decide : 3 ≤ 8))
  rw [hu] at k1
  have hsl : s.1.length ≤ 65536 := by have := uintS_len (l, 0); rw [hu] at this; exact Nat.le_trans this hl
  have hil : ∀ i, (itS i s).1.length ≤ 65536 := fun i => Nat.le_trans (itS_len s i) hsl
  have f2 := fields_n 3 (by decide) (by decide) 0 0 0 0 0 0 0 0 0
  have c1 := check_ok
  have hpe := fun i => parseK_err (k := 3) (s := s) i
  have hpg := parseK_go (k := 3) (s := s)
  generalize hP : parseK 3 s = PP at *
  refine satD_of_vc (T := tiOf Try.prog) (E := E0) (gc := 32) (ys := [.ptr 0 0, .ptr 1 0]) PnF Try.func19 rfl rfl hE0 hm0 rfl rfl rfl rfl rfl rfl rfl rfl rfl ?_
  conv => whnf
  iterate 5
    repeat' (first | exact True.intro | ((first | refine And.intro (fun _ => ?_) tf | refine And.intro ft (fun _ => ?_) | refine And.intro (by kernel_rfl) ?_ | refine And.intro (by decide) ?_ | refine And.intro (fun _ => ?_) (fun h => absurd h (by decide)) | refine And.intro (fun h => absurd h (by decide)) (fun _ => ?_) | refine ⟨_, _, n1.nw rfl, ?_⟩ | refine ⟨_, _, k1.at1 2 rfl rfl rfl, ?_⟩ | refine ⟨_, _, f2.at1 0 rfl rfl rfl, ?_⟩ | refine ⟨_, _, lenP (by kernel_rfl), ?_⟩ | fail); conv => whnf) | (refine And.intro (fun _ => ?_) (fun _ => ?_) <;> conv => whnf) | fail)
    all_goals try (refine Or.inl ?_; conv => whnf)
  all_goals try (exfalso; simp only [decide_eq_true_eq, decide_eq_false_iff_not, Bool.not_eq_true', Bool.not_eq_false', Bool.not_eq_true, Bool.not_eq_false, beq_iff_eq, bne_iff_ne, beq_eq_false_iff_ne, bne_eq_false_iff_eq, ne_eq, Decidable.not_not] at *; first | omega | contradiction | (simp_all; done) | (simp_all; omega))
  refine ⟨Nat, fun i => i ≤ 3 ∧ (itS i s).2 = 0, fun i => ([(16, iA i), (15, iA 3), (14, .rel 3 (slP 3)), (4, .ptr 2 0), (3, .ptr 1 0), (2, .ptr 0 0)], [.cells (frN 3 (vb 3 i s 1) (vb 3 i s 2) (vb 3 i s 3) (vb 3 i s 4) (vb 3 i s 5) (vb 3 i s 6) (vb 3 i s 7) (vb 3 i s 8) (vb 3 i s 9)), .cells [iA 0], rsO (itS i s), .cells (ptrsK 3)]), fun i => 3 - i, ⟨0, ⟨Nat.zero_le _, hs⟩, ?_⟩, ?_⟩
  · all_goals refine ⟨[], ?_⟩
    repeat (any_goals (first | exact True.intro | exact rfl | with_reducible_and_instances rfl | exact (by kernel_rfl) | refine And.intro ?_ ?_))
    all_goals conv => whnf
  rintro i ⟨hi, hI⟩
  have hi : i ≤ 3 := hi
  obtain rfl | rfl | rfl | rfl : i = 0 ∨ i = 1 ∨ i = 2 ∨ i = 3 := by omega
  · have u1 := uintG_sat (itS 0 s) (hil 0)
    have r1 := errG_sat (itS 1 s)
    conv => whnf
    by_cases he : (itS 1 s).2 = 0
    · rw [he] at r1
      iterate 5
        repeat' (first | exact True.intro | ((first | refine And.intro (fun _ => ?_) tf | refine And.intro ft (fun _ => ?_) | refine And.intro (by kernel_rfl) ?_ | refine And.intro (by decide) ?_ | refine And.intro (fun _ => ?_) (fun h => absurd h (by decide)) | refine And.intro (fun h => absurd h (by decide)) (fun _ => ?_) | refine ⟨_, _, ixP (by kernel_rfl) (by kernel_rfl) (by decide), ?_⟩ | refine ⟨_, _, u1.at1 2 rfl rfl rfl, ?_⟩ | refine ⟨_, _, r1.at1 2 rfl rfl rfl, ?_⟩ | refine ⟨_, _, c1.pu rfl rfl, ?_⟩ | fail); conv => whnf) | (refine And.intro (fun _ => ?_) (fun _ => ?_) <;> conv => whnf) | fail)
        all_goals try (refine Or.inl ?_; conv => whnf)
      refine ⟨1, ⟨by decide, he⟩, by decide, ?_⟩
      all_goals refine ⟨[], ?_⟩
      repeat (any_goals (first | exact True.intro | exact rfl | with_reducible_and_instances rfl | exact (by kernel_rfl) | refine And.intro ?_ ?_))
      all_goals conv => whnf
    · have c2 := check_no ((itS 1 s).2 : Int) (by omega)
      obtain rfl := hpe 1 (by decide) he
      rw [outP_err he]
      iterate 5
        repeat' (first | exact True.intro | ((first | refine Or.inr ⟨_, _, c2.pu rfl rfl, ?_⟩ | refine And.intro (fun _ => ?_) tf | refine And.intro ft (fun _ => ?_) | refine And.intro (by kernel_rfl) ?_ | refine And.intro (by decide) ?_ | refine And.intro (fun _ => ?_) (fun h => absurd h (by decide)) | refine And.intro (fun h => absurd h (by decide)) (fun _ => ?_) | refine ⟨_, _, ixP (by kernel_rfl) (by kernel_rfl) (by decide), ?_⟩ | refine ⟨_, _, u1.at1 2 rfl rfl rfl, ?_⟩ | refine ⟨_, _, r1.at1 2 rfl rfl rfl, ?_⟩ | fail); conv => whnf) | (refine And.intro (fun _ => ?_) (fun _ => ?_) <;> conv => whnf) | fail)
        all_goals try (refine Or.inl ?_; conv => whnf)
      refine ⟨_, def_pan4 _ _ _ _ _ _ _ _ _ _ _ _ _ _ _ _ _, rfl, ?_⟩
      conv => whnf
      all_goals refine ⟨[], ?_⟩
      repeat (any_goals (first | exact True.intro | exact rfl | with_reducible_and_instances rfl | exact (by kernel_rfl) | refine And.intro ?_ ?_))
      all_goals conv => whnf
  · have u1 := uintG_sat (itS 1 s) (hil 1)
    have r1 := errG_sat (itS 2 s)
    conv => whnf
    by_cases he : (itS 2 s).2 = 0
    · rw [he] at r1
      iterate 5
        repeat' (first | exact True.intro | ((first | refine And.intro (fun _ => ?_) tf | refine And.intro ft (fun _ => ?_) | refine And.intro (by kernel_rfl) ?_ | refine And.intro (by decide) ?_ | refine And.intro (fun _ => ?_) (fun h => absurd h (by decide)) | refine And.intro (fun h => absurd h (by decide)) (fun _ => ?_) | refine ⟨_, _, ixP (by kernel_rfl) (by kernel_rfl) (by decide), ?_⟩ | refine ⟨_, _, u1.at1 2 rfl rfl rfl, ?_⟩ | refine ⟨_, _, r1.at1 2 rfl rfl rfl, ?_⟩ | refine ⟨_, _, c1.pu rfl rfl, ?_⟩ | fail); conv => whnf) | (refine And.intro (fun _ => ?_) (fun _ => ?_) <;> conv => whnf) | fail)
        all_goals try (refine Or.inl ?_; conv => whnf)
      refine ⟨2, ⟨by decide, he⟩, by decide, ?_⟩
      all_goals refine ⟨[], ?_⟩
      repeat (any_goals (first | exact True.intro | exact rfl | with_reducible_and_instances rfl | exact (by kernel_rfl) | refine And.intro ?_ ?_))
      all_goals conv => whnf
    · have c2 := check_no ((itS 2 s).2 : Int) (by omega)
      obtain rfl := hpe 2 (by decide) he
      rw [outP_err he]
      iterate 5
        repeat' (first | exact True.intro | ((first | refine Or.inr ⟨_, _, c2.pu rfl rfl, ?_⟩ | refine And.intro (fun _ => ?_) tf | refine And.intro ft (fun _ => ?_) | refine And.intro (by kernel_rfl) ?_ | refine And.intro (by decide) ?_ | refine And.intro (fun _ => ?_) (fun h => absurd h (by decide)) | refine And.intro (fun h => absurd h (by decide)) (fun _ => ?_) | refine ⟨_, _, ixP (by kernel_rfl) (by kernel_rfl) (by decide), ?_⟩ | refine ⟨_, _, u1.at1 2 rfl rfl rfl, ?_⟩ | refine ⟨_, _, r1.at1 2 rfl rfl rfl, ?_⟩ | fail); conv => whnf) | (refine And.intro (fun _ => ?_) (fun _ => ?_) <;> conv => whnf) | fail)
        all_goals try (refine Or.inl ?_; conv => whnf)
      refine ⟨_, def_pan4 _ _ _ _ _ _ _ _ _ _ _ _ _ _ _ _ _, rfl, ?_⟩
      conv => whnf
      all_goals refine ⟨[], ?_⟩
      repeat (any_goals (first | exact True.intro | exact rfl | with_reducible_and_instances rfl | exact (by kernel_rfl) | refine And.intro ?_ ?_))
      all_goals conv => whnf
  · have u1 := uintG_sat (itS 2 s) (hil 2)
    have r1 := errG_sat (itS 3 s)
    conv => whnf
    by_cases he : (itS 3 s).2 = 0
    · rw [he] at r1
      iterate 5
        repeat' (first | exact True.intro | ((first | refine And.intro (fun _ => ?_) tf | refine And.intro ft (fun _ => ?_) | refine And.intro (by kernel_rfl) ?_ | refine And.intro (by decide) ?_ | refine And.intro (fun _ => ?_) (fun h => absurd h (by decide)) | refine And.intro (fun h => absurd h (by decide)) (fun _ => ?_) | refine ⟨_, _, ixP (by kernel_rfl) (by kernel_rfl) (by decide), ?_⟩ | refine ⟨_, _, u1.at1 2 rfl rfl rfl, ?_⟩ | refine ⟨_, _, r1.at1 2 rfl rfl rfl, ?_⟩ | refine ⟨_, _, c1.pu rfl rfl, ?_⟩ | fail); conv => whnf) | (refine And.intro (fun _ => ?_) (fun _ => ?_) <;> conv => whnf) | fail)
        all_goals try (refine Or.inl ?_; conv => whnf)
      refine ⟨3, ⟨by decide, he⟩, by decide, ?_⟩
      all_goals refine ⟨[], ?_⟩
      repeat (any_goals (first | exact True.intro | exact rfl | with_reducible_and_instances rfl | exact (by kernel_rfl) | refine And.intro ?_ ?_))
      all_goals conv => whnf
    · have c2 := check_no ((itS 3 s).2 : Int) (by omega)
      obtain rfl := hpe 3 (by decide) he
      rw [outP_err he]
      iterate 5
        repeat' (first | exact True.intro | ((first | refine Or.inr ⟨_, _, c2.pu rfl rfl, ?_⟩ | refine And.intro (fun _ => ?_) tf | refine And.intro ft (fun _ => ?_) | refine And.intro (by kernel_rfl) ?_ | refine And.intro (by decide) ?_ | refine And.intro (fun _ => ?_) (fun h => absurd h (by decide)) | refine And.intro (fun h => absurd h (by decide)) (fun _ => ?_) | refine ⟨_, _, ixP (by kernel_rfl) (by kernel_rfl) (by decide), ?_⟩ | refine ⟨_, _, u1.at1 2 rfl rfl rfl, ?_⟩ | refine ⟨_, _, r1.at1 2 rfl rfl rfl, ?_⟩ | fail); conv => whnf) | (refine And.intro (fun _ => ?_) (fun _ => ?_) <;> conv => whnf) | fail)
        all_goals try (refine Or.inl ?_; conv => whnf)
      refine ⟨_, def_pan4 _ _ _ _ _ _ _ _ _ _ _ _ _ _ _ _ _, rfl, ?_⟩
      conv => whnf
      all_goals refine ⟨[], ?_⟩
      repeat (any_goals (first | exact True.intro | exact rfl | with_reducible_and_instances rfl | exact (by kernel_rfl) | refine And.intro ?_ ?_))
      all_goals conv => whnf
  have hq := hpg hI
  replace hq : PP = finP (frS 3 3 s [] ([], []) []) (itS 3 s) := hq
  have e1 := endG_sat (itS 3 s) (hil 3)
  conv => whnf
  by_cases he : (endS (itS 3 s)).2 = 0
  case neg =>
    have c2 := check_no ((endS (itS 3 s)).2 : Int) (by omega)
    rw [finP_end he] at hq
    subst hq
    rw [outP_err he]
    iterate 5
      repeat' (first | exact True.intro | ((first | refine Or.inr ⟨_, _, c2.pu rfl rfl, ?_⟩ | refine And.intro (fun _ => ?_) tf | refine And.intro ft (fun _ => ?_) | refine And.intro (by kernel_rfl) ?_ | refine And.intro (by decide) ?_ | refine And.intro (fun _ => ?_) (fun h => absurd h (by decide)) | refine And.intro (fun h => absurd h (by decide)) (fun _ => ?_) | refine ⟨_, _, e1.at1 2 rfl rfl rfl, ?_⟩ | fail); conv => whnf) | (refine And.intro (fun _ => ?_) (fun _ => ?_) <;> conv => whnf) | fail)
      all_goals try (refine Or.inl ?_; conv => whnf)
    refine ⟨_, def_pan4 _ _ _ _ _ _ _ _ _ _ _ _ _ _ _ _ _, rfl, ?_⟩
    conv => whnf
    all_goals refine ⟨[], ?_⟩
    repeat (any_goals (first | exact True.intro | exact rfl | with_reducible_and_instances rfl | exact (by kernel_rfl) | refine And.intro ?_ ?_))
    all_goals conv => whnf
  rw [he] at e1
  have hfo := frS_ok 3 3 s (by decide) (ev := []) (sr := ([], [])) [] (by simp) (by simp) (by simp)
  have r1 := right_pre (frS 3 3 s [] ([], []) []) hfo (xs := nilR (frS 3 3 s [] ([], []) [])) (by repeat' (first | exact trivial | refine And.intro ?_ ?_ | exact .inl rfl | exact .inr ⟨rfl, _, rfl⟩))
  cases hr : rightF (frS 3 3 s [] ([], []) []) with
  | false =>
    rw [hr] at r1
    rw [finP_no he hr] at hq
    subst hq
    rw [outP_err (by decide)]
    iterate 5
      repeat' (first | exact True.intro | ((first | refine And.intro (fun _ => ?_) tf | refine And.intro ft (fun _ => ?_) | refine And.intro (by kernel_rfl) ?_ | refine And.intro (by decide) ?_ | refine And.intro (fun _ => ?_) (fun h => absurd h (by decide)) | refine And.intro (fun h => absurd h (by decide)) (fun _ => ?_) | refine ⟨_, _, e1.at1 2 rfl rfl rfl, ?_⟩ | refine ⟨_, _, c1.pu rfl rfl, ?_⟩ | refine ⟨_, _, r1.pu rfl rfl, ?_⟩ | refine ⟨_, _, mkI 10, ?_⟩ | fail); conv => whnf) | (refine And.intro (fun _ => ?_) (fun _ => ?_) <;> conv => whnf) | fail)
      all_goals try (refine Or.inl ?_; conv => whnf)
    refine ⟨_, def_pan4 _ _ _ _ _ _ _ _ _ _ _ _ _ _ _ _ _, rfl, ?_⟩
    conv => whnf
    all_goals refine ⟨[], ?_⟩
    repeat (any_goals (first | exact True.intro | exact rfl | with_reducible_and_instances rfl | exact (by kernel_rfl) | refine And.intro ?_ ?_))
    all_goals conv => whnf
  | true =>
    rw [hr] at r1
    rw [finP_ok he hr] at hq
    subst hq
    iterate 5
      repeat' (first | exact True.intro | ((first | refine And.intro (fun _ => ?_) tf | refine And.intro ft (fun _ => ?_) | refine And.intro (by kernel_rfl) ?_ | refine And.intro (by decide) ?_ | refine And.intro (fun _ => ?_) (fun h => absurd h (by decide)) | refine And.intro (fun h => absurd h (by decide)) (fun _ => ?_) | refine ⟨_, _, e1.at1 2 rfl rfl rfl, ?_⟩ | refine ⟨_, _, c1.pu rfl rfl, ?_⟩ | refine ⟨_, _, r1.pu rfl rfl, ?_⟩ | fail); conv => whnf) | (refine And.intro (fun _ => ?_) (fun _ => ?_) <;> conv => whnf) | fail)
      all_goals try (refine Or.inl ?_; conv => whnf)
    refine ⟨_, def_retN _ _ _ _ _ _ _ _ _ _ _ _, rfl, ?_⟩
    conv => whnf
    all_goals refine ⟨[], ?_⟩
    repeat (any_goals (first | exact True.intro | exact rfl | with_reducible_and_instances rfl | exact (by kernel_rfl) | refine And.intro ?_ ?_))
    all_goals conv => whnf
set_option maxHeartbeats 8000000 in
theorem parse_4 (l : Bt) (hl : l.length ≤ 65536) (s : Rs) (hu : uintS (l, 0) = (4, s)) (hs : s.2 = 0) : Sat Try.prog 19 [.d (bsD l)] [] (outP 4 (parseK 4 s)) [] := by
  have n1 := newG_sat l hl
  have k1 := kind_ok (l, 0) hl (by rw [hu]; exact hs) (by rw [hu]; exact (by decide : 1 ≤ 4)) (by rw [hu]; exact (by decide : 4 ≤ 8))
  rw [hu] at k1
  have hsl : s.1.length ≤ 65536 := by have := uintS_len (l, 0); rw [hu] at this; exact Nat.le_trans this hl
  have hil : ∀ i, (itS i s).1.length ≤ 65536 := fun i => Nat.le_trans (itS_len s i) hsl
  have f2 := fields_n 4 (by decide) (by decide) 0 0 0 0 0 0 0 0 0
  have c1 := check_ok
  have hpe := fun i => parseK_err (k := 4) (s := s) i
  have hpg := parseK_go (k := 4) (s := s)
  generalize hP : parseK 4 s = PP at *
  refine satD_of_vc (T := tiOf Try.prog) (E := E0) (gc := 32) (ys := [.ptr 0 0, .ptr 1 0]) PnF Try.func19 rfl rfl hE0 hm0 rfl rfl rfl rfl rfl rfl rfl rfl rfl ?_
  conv => whnf
  iterate 5
    repeat' (first | exact True.intro | ((first | refine And.intro (fun _ => ?_) tf | refine And.intro ft (fun _ => ?_) | refine And.intro (by kernel_rfl) ?_ | refine And.intro (by decide) ?_ | refine And.intro (fun _ => ?_) (fun h => absurd h (by decide)) | refine And.intro (fun h => absurd h (by decide)) (fun _ => ?_) | refine ⟨_, _, n1.nw rfl, ?_⟩ | refine ⟨_, _, k1.at1 2 rfl rfl rfl, ?_⟩ | refine ⟨_, _, f2.at1 0 rfl rfl rfl, ?_⟩ | refine ⟨_, _, lenP (by kernel_rfl), ?_⟩ | fail); conv => whnf) | (refine And.intro (fun _ => ?_) (fun _ => ?_) <;> conv => whnf) | fail)
    all_goals try (refine Or.inl ?_; conv => whnf)
  all_goals try (exfalso; simp only [decide_eq_true_eq, decide_eq_false_iff_not, Bool.not_eq_true', Bool.not_eq_false', Bool.not_eq_true, Bool.not_eq_false, beq_iff_eq, bne_iff_ne, beq_eq_false_iff_ne, bne_eq_false_iff_eq, ne_eq, Decidable.not_not] at *; first | omega | contradiction | (simp_all; done) | (simp_all; omega))
  refine ⟨Nat, fun i => i ≤ 6 ∧ (itS i s).2 = 0, fun i => ([(16, iA i), (15, iA 6), (14, .rel 3 (slP 6)), (4, .ptr 2 0), (3, .ptr 1 0), (2, .ptr 0 0)], [.cells (frN 4 (vb 4 i s 1) (vb 4 i s 2) (vb 4 i s 3) (vb 4 i s 4) (vb 4 i s 5) (vb 4 i s 6) (vb 4 i s 7) (vb 4 i s 8) (vb 4 i s 9)), .cells [iA 0], rsO (itS i s), .cells (ptrsK 4)]), fun i => 6 - i, ⟨0, ⟨Nat.zero_le _, hs⟩, ?_⟩, ?_⟩
  · all_goals refine ⟨[], ?_⟩
    repeat (any_goals (first | exact True.intro | exact rfl | with_reducible_and_instances rfl | exact (by kernel_rfl) | refine And.intro ?_ ?_))
    all_goals conv => whnf
  rintro i ⟨hi, hI⟩
  have hi : i ≤ 6 := hi
  obtain rfl | rfl | rfl | rfl | rfl | rfl | rfl : i = 0 ∨ i = 1 ∨ i = 2 ∨ i = 3 ∨ i = 4 ∨ i = 5 ∨ i = 6 := by omega
  · have u1 := uintG_sat (itS 0 s) (hil 0)
    have r1 := errG_sat (itS 1 s)
    conv => whnf
    by_cases he : (itS 1 s).2 = 0
    · rw [he] at r1
      iterate 5
        repeat' (first | exact True.intro | ((first | refine And.intro (fun _ => ?_) tf | refine And.intro ft (fun _ => ?_) | refine And.intro (by kernel_rfl) ?_ | refine And.intro (by decide) ?_ | refine And.intro (fun _ => ?_) (fun h => absurd h (by decide)) | refine And.intro (fun h => absurd h (by decide)) (fun _ => ?_) | refine ⟨_, _, ixP (by kernel_rfl) (by kernel_rfl) (by decide), ?_⟩ | refine ⟨_, _, u1.at1 2 rfl rfl rfl, ?_⟩ | refine ⟨_, _, r1.at1 2 rfl rfl rfl, ?_⟩ | refine ⟨_, _, c1.pu rfl rfl, ?_⟩ | fail); conv => whnf) | (refine And.intro (fun _ => ?_) (fun _ => ?_) <;> conv => whnf) | fail)
        all_goals try (refine Or.inl ?_; conv => whnf)
      refine ⟨1, ⟨by decide, he⟩, by decide, ?_⟩
      all_goals refine ⟨[], ?_⟩
      repeat (any_goals (first | exact True.intro | exact rfl | with_reducible_and_instances rfl | exact (by kernel_rfl) | refine And.intro ?_ ?_))
      all_goals conv => whnf
    · have c2 := check_no ((itS 1 s).2 : Int) (by omega)
      obtain rfl := hpe 1 (by decide) he
      rw [outP_err he]
      iterate 5
        repeat' (first | exact True.intro | ((first | refine Or.inr ⟨_, _, c2.pu rfl rfl, ?_⟩ | refine And.intro (fun _ => ?_) tf | refine And.intro ft (fun _ => ?_) | refine And.intro (by kernel_rfl) ?_ | refine And.intro (by decide) ?_ | refine And.intro (fun _ => ?_) (fun h => absurd h (by decide)) | refine And.intro (fun h => absurd h (by decide)) (fun _ => ?_) | refine ⟨_, _, ixP (by kernel_rfl) (by kernel_rfl) (by decide), ?_⟩ | refine ⟨_, _, u1.at1 2 rfl rfl rfl, ?_⟩ | refine ⟨_, _, r1.at1 2 rfl rfl rfl, ?_⟩ | fail); conv => whnf) | (refine And.intro (fun _ => ?_) (fun _ => ?_) <;> conv => whnf) | fail)
        all_goals try (refine Or.inl ?_; conv => whnf)
      refine ⟨_, def_pan4 _ _ _ _ _ _ _ _ _ _ _ _ _ _ _ _ _, rfl, ?_⟩
      conv => whnf
      all_goals refine ⟨[], ?_⟩
      repeat (any_goals (first | exact True.intro | exact rfl | with_reducible_and_instances rfl | exact (by kernel_rfl) | refine And.intro ?_ ?_))
      all_goals conv => whnf
  · have u1 := uintG_sat (itS 1 s) (hil 1)
    have r1 := errG_sat (itS 2 s)
    conv => whnf
    by_cases he : (itS 2 s).2 = 0
    · rw [he] at r1
      iterate 5
        repeat' (first | exact True.intro | ((first | refine And.intro (fun _ => ?_) tf | refine And.intro ft (fun _ => ?_) | refine And.intro (by kernel_rfl) ?_ | refine And.intro (by decide) ?_ | refine And.intro (fun _ => ?_) (fun h => absurd h (by decide)) | refine And.intro (fun h => absurd h (by decide)) (fun _ => ?_) | refine ⟨_, _, ixP (by kernel_rfl) (by kernel_rfl) (by decide), ?_⟩ | refine ⟨_, _, u1.at1 2 rfl rfl rfl, ?_⟩ | refine ⟨_, _, r1.at1 2 rfl rfl rfl, ?_⟩ | refine ⟨_, _, c1.pu rfl rfl, ?_⟩ | fail); conv => whnf) | (refine And.intro (fun _ => ?_) (fun _ => ?_) <;> conv => whnf) | fail)
        all_goals try (refine Or.inl ?_; conv => whnf)
      refine ⟨2, ⟨by decide, he⟩, by decide, ?_⟩
      all_goals refine ⟨[], ?_⟩
      repeat (any_goals (first | exact True.intro | exact rfl | with_reducible_and_instances rfl | exact (by kernel_rfl) | refine And.intro ?_ ?_))
      all_goals conv => whnf
    · have c2 := check_no ((itS 2 s).2 : Int) (by omega)
      obtain rfl := hpe 2 (by decide) he
      rw [outP_err he]
      iterate 5
        repeat' (first | exact True.intro | ((first | refine Or.inr ⟨_, _, c2.pu rfl rfl, ?_⟩ | refine And.intro (fun _ => ?_) tf | refine And.intro ft (fun _ => ?_) | refine And.intro (by kernel_rfl) ?_ | refine And.intro (by decide) ?_ | refine And.intro (fun _ => ?_) (fun h => absurd h (by decide)) | refine And.intro (fun h => absurd h (by decide)) (fun _ => ?_) | refine ⟨_, _, ixP (by kernel_rfl) (by kernel_rfl) (by decide), ?_⟩ | refine ⟨_, _, u1.at1 2 rfl rfl rfl, ?_⟩ | refine ⟨_, _, r1.at1 2 rfl rfl rfl, ?_⟩ | fail); conv => whnf) | (refine And.intro (fun _ => ?_) (fun _ => ?_) <;> conv => whnf) | fail)
        all_goals try (refine Or.inl ?_; conv => whnf)
      refine ⟨_, def_pan4 _ _ _ _ _ _ _ _ _ _ _ _ _ _ _ _ _, rfl, ?_⟩
      conv => whnf
      all_goals refine ⟨[], ?_⟩
      repeat (any_goals (first | exact True.intro | exact rfl | with_reducible_and_instances rfl | exact (by kernel_rfl) | refine And.intro ?_ ?_))
      all_goals conv => whnf
  · have u1 := uintG_sat (itS 2 s) (hil 2)
    have r1 := errG_sat (itS 3 s)
    conv => whnf
    by_cases he : (itS 3 s).2 = 0
    · rw [he] at r1
      iterate 5
        repeat' (first | exact True.intro | ((first | refine And.intro (fun _ => ?_) tf | refine And.intro ft (fun _ => ?_) | refine And.intro (by kernel_rfl) ?_ | refine And.intro (by decide) ?_ | refine And.intro (fun _ => ?_) (fun h => absurd h (by decide)) | refine And.intro (fun h => absurd h (by decide)) (fun _ => ?_) | refine ⟨_, _, ixP (by kernel_rfl) (by kernel_rfl) (by decide), ?_⟩ | refine ⟨_, _, u1.at1 2 rfl rfl rfl, ?_⟩ | refine ⟨_, _, r1.at1 2 rfl rfl rfl, ?_⟩ | refine ⟨_, _, c1.pu rfl rfl, ?_⟩ | fail); conv => whnf) | (refine And.intro (fun _ => ?_) (fun _ => ?_) <;> conv => whnf) | fail)
        all_goals try (refine Or.inl ?_; conv => whnf)
      refine ⟨3, ⟨by decide, he⟩, by decide, ?_⟩
      all_goals refine ⟨[], ?_⟩
      repeat (any_goals (first | exact True.intro | exact rfl | with_reducible_and_instances rfl | exact (by kernel_rfl) | refine And.intro ?_ ?_))
      all_goals conv => whnf
    · have c2 := check_no ((itS 3 s).2 : Int) (by omega)
      obtain rfl := hpe 3 (by decide) he
      rw [outP_err he]
      iterate 5
        repeat' (first | exact True.intro | ((first | refine Or.inr ⟨_, _, c2.pu rfl rfl, ?_⟩ | refine And.intro (fun _ => ?_) tf | refine And.intro ft (fun _ => ?_) | refine And.intro (by kernel_rfl) ?_ | refine And.intro (by decide) ?_ | refine And.intro (fun _ => ?_) (fun h => absurd h (by decide)) | refine And.intro (fun h => absurd h (by decide)) (fun _ => ?_) | refine ⟨_, _, ixP (by kernel_rfl) (by kernel_rfl) (by decide), ?_⟩ | refine ⟨_, _, u1.at1 2 rfl rfl rfl, ?_⟩ | refine ⟨_, _, r1.at1 2 rfl rfl rfl, ?_⟩ | fail); conv => whnf) | (refine And.intro (fun _ => ?_) (fun _ => ?_) <;> conv => whnf) | fail)
        all_goals try (refine Or.inl ?_; conv => whnf)
      refine ⟨_, def_pan4 _ _ _ _ _ _ _ _ _ _ _ _ _ _ _ _ _, rfl, ?_⟩
      conv => whnf
      all_goals refine ⟨[], ?_⟩
      repeat (any_goals (first | exact True.intro | exact rfl | with_reducible_and_instances rfl | exact (by kernel_rfl) | refine And.intro ?_ ?_))
      all_goals conv => whnf
  · have u1 := uintG_sat (itS 3 s) (hil 3)
    have r1 := errG_sat (itS 4 s)
    conv => whnf
    by_cases he : (itS 4 s).2 = 0
    · rw [he] at r1
      iterate 5
        repeat' (first | exact True.intro | ((first | refine And.intro (fun _ => ?_) tf | refine And.intro ft (fun _ => ?_) | refine And.intro (by kernel_rfl) ?_ | refine And.intro (by decide) ?_ | refine And.intro (fun _ => ?_) (fun h => absurd h (by decide)) | refine And.intro (fun h => absurd h (by decide)) (fun _ => ?_) | refine ⟨_, _, ixP (by kernel_rfl) (by kernel_rfl) (by decide), ?_⟩ | refine ⟨_, _, u1.at1 2 rfl rfl rfl, ?_⟩ | refine ⟨_, _, r1.at1 2 rfl rfl rfl, ?_⟩ | refine ⟨_, _, c1.pu rfl rfl, ?_⟩ | fail); conv => whnf) | (refine And.intro (fun _ => ?_) (fun _ => ?_) <;> conv => whnf) | fail)
        all_goals try (refine Or.inl ?_; conv => whnf)
      refine ⟨4, ⟨by decide, he⟩, by decide, ?_⟩
      all_goals refine ⟨[], ?_⟩
      repeat (any_goals (first | exact True.intro | exact rfl | with_reducible_and_instances rfl | exact (by kernel_rfl) | refine And.intro ?_ ?_))
      all_goals conv => whnf
    · have c2 := check_no ((itS 4 s).2 : Int) (by omega)
      obtain rfl := hpe 4 (by decide) he
      rw [outP_err he]
      iterate 5
        repeat' (first | exact True.intro | ((first | refine Or.inr ⟨_, _, c2.pu rfl rfl, ?_⟩ | refine And.intro (fun _ => ?_) tf | refine And.intro ft (fun _ => ?_) | refine And.intro (by kernel_rfl) ?_ | refine And.intro (by decide) ?_ | refine And.intro (fun _ => ?_) (fun h => absurd h (by decide)) | refine And.intro (fun h => absurd h (by decide)) (fun _ => ?_) | refine ⟨_, _, ixP (by kernel_rfl) (by kernel_rfl) (by decide), ?_⟩ | refine ⟨_, _, u1.at1 2 rfl rfl rfl, ?_⟩ | refine ⟨_, _, r1.at1 2 rfl rfl rfl, ?_⟩ | fail); conv => whnf) | (refine And.intro (fun _ => ?_) (fun _ => ?_) <;> conv => whnf) | fail)
        all_goals try (refine Or.inl ?_; conv => whnf)
      refine ⟨_, def_pan4 _ _ _ _ _ _ _ _ _ _ _ _ _ _ _ _ _, rfl, ?_⟩
      conv => whnf
      all_goals refine ⟨[], ?_⟩
      repeat (any_goals (first | exact True.intro | exact rfl | with_reducible_and_instances rfl | exact (by kernel_rfl) | refine And.intro ?_ ?_))
      all_goals conv => whnf
  · have u1 := uintG_sat (itS 4 s) (hil 4)
    have r1 := errG_sat (itS 5 s)
    conv => whnf
    by_cases he : (itS 5 s).2 = 0
    · rw [he] at r1
      iterate 5
        repeat' (first | exact True.intro | ((first | refine And.intro (fun _ => ?_) tf | refine And.intro ft (fun _ => ?_) | refine And.intro (by kernel_rfl) ?_ | refine And.intro (by decide) ?_ | refine And.intro (fun _ => ?_) (fun h => absurd h (by decide)) | refine And.intro (fun h => absurd h (by decide)) (fun _ => ?_) | refine ⟨_, _, ixP (by kernel_rfl) (by kernel_rfl) (by decide), ?_⟩ | refine ⟨_, _, u1.at1 2 rfl rfl rfl, ?_⟩ | refine ⟨_, _, r1.at1 2 rfl rfl rfl, ?_⟩ | refine ⟨_, _, c1.pu rfl rfl, ?_⟩ | fail); conv => whnf) | (refine And.intro (fun _ => ?_) (fun _ => ?_) <;> conv => whnf) | fail)
        all_goals try (refine Or.inl ?_; conv => whnf)
      refine ⟨5, ⟨by decide, he⟩, by decide, ?_⟩
      all_goals refine ⟨[], ?_⟩
      repeat (any_goals (first | exact True.intro | exact rfl | with_reducible_and_instances rfl | exact (by kernel_rfl) | refine And.intro ?_ ?_))
      all_goals conv => whnf
    · have c2 := check_no ((itS 5 s).2 : Int) (by omega)
      obtain rfl := hpe 5 (by decide) he
      rw [outP_err he]
      iterate 5
        repeat' (first | exact True.intro | ((first | refine Or.inr ⟨_, _, c2.pu rfl rfl, ?_⟩ | refine And.intro (fun _ => ?_) tf | refine And.intro ft (fun _ => ?_) | refine And.intro (by kernel_rfl) ?_ | refine And.intro (by decide) ?_ | refine And.intro (fun _ => ?_) (fun h => absurd h (by decide)) | refine And.intro (fun h => absurd h (by decide)) (fun _ => ?_) | refine ⟨_, _, ixP (by kernel_rfl) (by kernel_rfl) (by decide), ?_⟩ | refine ⟨_, _, u1.at1 2 rfl rfl rfl, ?_⟩ | refine ⟨_, _, r1.at1 2 rfl rfl rfl, ?_⟩ | fail); conv => whnf) | (refine And.intro (fun _ => ?_) (fun _ => ?_) <;> conv => whnf) | fail)
        all_goals try (refine Or.inl ?_; conv => whnf)
      refine ⟨_, def_pan4 _ _ _ _ _ _ _ _ _ _ _ _ _ _ _ _ _, rfl, ?_⟩
      conv => whnf
      all_goals refine ⟨[], ?_⟩
      repeat (any_goals (first | exact True.intro | exact rfl | with_reducible_and_instances rfl | exact (by kernel_rfl) | refine And.intro ?_ ?_))
      all_goals conv => whnf
  · have u1 := uintG_sat (itS 5 s) (hil 5)
    have r1 := errG_sat (itS 6 s)
    conv => whnf
    by_cases he : (itS 6 s).2 = 0
    · rw [he] at r1
      iterate 5
        repeat' (first | exact True.intro | ((first | refine And.intro (fun _ => ?_) tf | refine And.intro ft (fun _ => ?_) | refine And.intro (by kernel_rfl) ?_ | refine And.intro (by decide) ?_ | refine And.intro (fun _ => ?_) (fun h => absurd h (by decide)) | refine And.intro (fun h => absurd h (by decide)) (fun _ => ?_) | refine ⟨_, _, ixP (by kernel_rfl) (by kernel_rfl) (by decide), ?_⟩ | refine ⟨_, _, u1.at1 2 rfl rfl rfl, ?_⟩ | refine ⟨_, _, r1.at1 2 rfl rfl rfl, ?_⟩ | refine ⟨_, _, c1.pu rfl rfl, ?_⟩ | fail); conv => whnf) | (refine And.intro (fun _ => ?_) (fun _ => ?_) <;> conv => whnf) | fail)
        all_goals try (refine Or.inl ?_; conv => whnf)
      refine ⟨6, ⟨by decide, he⟩, by decide, ?_⟩
      all_goals refine ⟨[], ?_⟩
      repeat (any_goals (first | exact True.intro | exact rfl | with_reducible_and_instances rfl | exact (by kernel_rfl) | refine And.intro ?_ ?_))
      all_goals conv => whnf
    · have c2 := check_no ((itS 6 s).2 : Int) (by omega)
      obtain rfl := hpe 6 (by decide) he
      rw [outP_err he]
      iterate 5
        repeat' (first | exact True.intro | ((first | refine Or.inr ⟨_, _, c2.pu rfl rfl, ?_⟩ | refine And.intro (fun _ => ?_) tf | refine And.intro ft (fun _ => ?_) | refine And.intro (by kernel_rfl) ?_ | refine And.intro (by decide) ?_ | refine And.intro (fun _ => ?_) (fun h => absurd h (by decide)) | refine And.intro (fun h => absurd h (by decide)) (fun _ => ?_) | refine ⟨_, _, ixP (by kernel_rfl) (by kernel_rfl) (by decide), ?_⟩ | refine ⟨_, _, u1.at1 2 rfl rfl rfl, ?_⟩ | refine ⟨_, _, r1.at1 2 rfl rfl rfl, ?_⟩ | fail); conv => whnf) | (refine And.intro (fun _ => ?_) (fun _ => ?_) <;> conv => whnf) | fail)
        all_goals try (refine Or.inl ?_; conv => whnf)
      refine ⟨_, def_pan4 _ _ _ _ _ _ _ _ _ _ _ _ _ _ _ _ _, rfl, ?_⟩
      conv => whnf
      all_goals refine ⟨[], ?_⟩
      repeat (any_goals (first | exact True.intro | exact rfl | with_reducible_and_instances rfl | exact (by kernel_rfl) | refine And.intro ?_ ?_))
      all_goals conv => whnf
  have hq := hpg hI
  replace hq : PP = finP (frS 4 6 s [] ([], []) []) (itS 6 s) := hq
  have e1 := endG_sat (itS 6 s) (hil 6)
  conv => whnf
  by_cases he : (endS (itS 6 s)).2 = 0
  case neg =>
    have c2 := check_no ((endS (itS 6 s)).2 : Int) (by omega)
    rw [finP_end he] at hq
    subst hq
    rw [outP_err he]
    iterate 5
      repeat' (first | exact True.intro | ((first | refine Or.inr ⟨_, _, c2.pu rfl rfl, ?_⟩ | refine And.intro (fun _ => ?_) tf | refine And.intro ft (fun _ => ?_) | refine And.intro (by kernel_rfl) ?_ | refine And.intro (by decide) ?_ | refine And.intro (fun _ => ?_) (fun h => absurd h (by decide)) | refine And.intro (fun h => absurd h (by decide)) (fun _ => ?_) | refine ⟨_, _, e1.at1 2 rfl rfl rfl, ?_⟩ | fail); conv => whnf) | (refine And.intro (fun _ => ?_) (fun _ => ?_) <;> conv => whnf) | fail)
      all_goals try (refine Or.inl ?_; conv => whnf)
    refine ⟨_, def_pan4 _ _ _ _ _ _ _ _ _ _ _ _ _ _ _ _ _, rfl, ?_⟩
    conv => whnf
    all_goals refine ⟨[], ?_⟩
    repeat (any_goals (first | exact True.intro | exact rfl | with_reducible_and_instances rfl | exact (by kernel_rfl) | refine And.intro ?_ ?_))
    all_goals conv => whnf
  rw [he] at e1
  have hfo := frS_ok 4 6 s (by decide) (ev := []) (sr := ([], [])) [] (by simp) (by simp) (by simp)
  have r1 := right_pre (frS 4 6 s [] ([], []) []) hfo (xs := nilR (frS 4 6 s [] ([], []) [])) (by repeat' (first | exact trivial | refine And.intro ?_ ?_ | exact .inl rfl | exact .inr ⟨rfl, _, rfl⟩))
  cases hr : rightF (frS 4 6 s [] ([], []) []) with
  | false =>
    rw [hr] at r1
    rw [finP_no he hr] at hq
    subst hq
    rw [outP_err (by decide)]
    iterate 5
      repeat' (first | exact True.intro | ((first | refine And.intro (fun _ => ?_) tf | refine And.intro ft (fun _ => ?_) | refine And.intro (by kernel_rfl) ?_ | refine And.intro (by decide) ?_ | refine And.intro (fun _ => ?_) (fun h => absurd h (by decide)) | refine And.intro (fun h => absurd h (by decide)) (fun _ => ?_) | refine ⟨_, _, e1.at1 2 rfl rfl rfl, ?_⟩ | refine ⟨_, _, c1.pu rfl rfl, ?_⟩ | refine ⟨_, _, r1.pu rfl rfl, ?_⟩ | refine ⟨_, _, mkI 10, ?_⟩ | fail); conv => whnf) | (refine And.intro (fun _ => ?_) (fun _ => ?_) <;> conv => whnf) | fail)
      all_goals try (refine Or.inl ?_; conv => whnf)
    refine ⟨_, def_pan4 _ _ _ _ _ _ _ _ _ _ _ _ _ _ _ _ _, rfl, ?_⟩
    conv => whnf
    all_goals refine ⟨[], ?_⟩
    repeat (any_goals (first | exact True.intro | exact rfl | with_reducible_and_instances rfl | exact (by kernel_rfl) | refine And.intro ?_ ?_))
    all_goals conv => whnf
  | true =>
    rw [hr] at r1
    rw [finP_ok he hr] at hq
    subst hq
    iterate 5
      repeat' (first | exact True.intro | ((first | refine And.intro (fun _ => ?_) tf | refine And.intro ft (fun _ => ?_) | refine And.intro (by kernel_rfl) ?_ | refine And.intro (by decide) ?_ | refine And.intro (fun _ => ?_) (fun h => absurd h (by decide)) | refine And.intro (fun h => absurd h (by decide)) (fun _ => ?_) | refine ⟨_, _, e1.at1 2 rfl rfl rfl, ?_⟩ | refine ⟨_, _, c1.pu rfl rfl, ?_⟩ | refine ⟨_, _, r1.pu rfl rfl, ?_⟩ | fail); conv => whnf) | (refine And.intro (fun _ => ?_) (fun _ => ?_) <;> conv => whnf) | fail)
      all_goals try (refine Or.inl ?_; conv => whnf)
    refine ⟨_, def_retN _ _ _ _ _ _ _ _ _ _ _ _, rfl, ?_⟩
    conv => whnf
    all_goals refine ⟨[], ?_⟩
    repeat (any_goals (first | exact True.intro | exact rfl | with_reducible_and_instances rfl | exact (by kernel_rfl) | refine And.intro ?_ ?_))
    all_goals conv => whnf
set_option maxHeartbeats 8000000 in
theorem parse_6 (l : Bt) (hl : l.length ≤ 65536) (s : Rs) (hu : uintS (l, 0) = (6, s)) (hs : s.2 = 0) : Sat Try.prog 19 [.d (bsD l)] [] (outP 6 (parseK 6 s)) [] := by
  have n1 := newG_sat l hl
  have k1 := kind_ok (l, 0) hl (by rw [hu]; exact hs) (by rw [hu]; exact (by decide : 1 ≤ 6)) (by rw [hu]; exact (by decide : 6 ≤ 8))
  rw [hu] at k1
  have hsl : s.1.length ≤ 65536 := by have := uintS_len (l, 0); rw [hu] at this; exact Nat.le_trans this hl
  have hil : ∀ i, (itS i s).1.length ≤ 65536 := fun i => Nat.le_trans (itS_len s i) hsl
  have f2 := fields_n 6 (by decide) (by decide) 0 0 0 0 0 0 0 0 0
  have c1 := check_ok
  have hpe := fun i => parseK_err (k := 6) (s := s) i
  have hpg := parseK_go (k := 6) (s := s)
  generalize hP : parseK 6 s = PP at *
  refine satD_of_vc (T := tiOf Try.prog) (E := E0) (gc := 32) (ys := [.ptr 0 0, .ptr 1 0]) PnF Try.func19 rfl rfl hE0 hm0 rfl rfl rfl rfl rfl rfl rfl rfl rfl ?_
  conv => whnf
  iterate 5
    repeat' (first | exact True.intro | ((first | refine And.intro (fun _ => ?_) tf | refine And.intro ft (fun _ => ?_) | refine And.intro (by kernel_rfl) ?_ | refine And.intro (by decide) ?_ | refine And.intro (fun _ => ?_) (fun h => absurd h (by decide)) | refine And.intro (fun h => absurd h (by decide)) (fun _ => ?_) | refine ⟨_, _, n1.nw rfl, ?_⟩ | refine ⟨_, _, k1.at1 2 rfl rfl rfl, ?_⟩ | refine ⟨_, _, f2.at1 0 rfl rfl rfl, ?_⟩ | refine ⟨_, _, lenP (by kernel_rfl), ?_⟩ | fail); conv => whnf) | (refine And.intro (fun _ => ?_) (fun _ => ?_) <;> conv => whnf) | fail)
    all_goals try (refine Or.inl ?_; conv => whnf)
  all_goals try (exfalso; simp only [decide_eq_true_eq, decide_eq_false_iff_not, Bool.not_eq_true', Bool.not_eq_false', Bool.not_eq_true, Bool.not_eq_false, beq_iff_eq, bne_iff_ne, beq_eq_false_iff_ne, bne_eq_false_iff_eq, ne_eq, Decidable.not_not] at *; first | omega | contradiction | (simp_all; done) | (simp_all; omega))
  refine ⟨Nat, fun i => i ≤ 3 ∧ (itS i s).2 = 0, fun i => ([(16, iA i), (15, iA 3), (14, .rel 3 (slP 3)), (4, .ptr 2 0), (3, .ptr 1 0), (2, .ptr 0 0)], [.cells (frN 6 (vb 6 i s 1) (vb 6 i s 2) (vb 6 i s 3) (vb 6 i s 4) (vb 6 i s 5) (vb 6 i s 6) (vb 6 i s 7) (vb 6 i s 8) (vb 6 i s 9)), .cells [iA 0], rsO (itS i s), .cells (ptrsK 6)]), fun i => 3 - i, ⟨0, ⟨Nat.zero_le _, hs⟩, ?_⟩, ?_⟩
  · all_goals refine ⟨[], ?_⟩
    repeat (any_goals (first | exact True.intro | exact rfl | with_reducible_and_instances rfl | exact (by kernel_rfl) | refine And.intro ?_ ?_))
    all_goals conv => whnf
  rintro i ⟨hi, hI⟩
  have hi : i ≤ 3 := hi
  obtain rfl | rfl | rfl | rfl : i = 0 ∨ i = 1 ∨ i = 2 ∨ i = 3 := by omega
  · have u1 := uintG_sat (itS 0 s) (hil 0)
    have r1 := errG_sat (itS 1 s)
    conv => whnf
    by_cases he : (itS 1 s).2 = 0
    · rw [he] at r1
      iterate 5
        repeat' (first | exact True.intro | ((first | refine And.intro (fun _ => ?_) tf | refine And.intro ft (fun _ => ?_) | refine And.intro (by kernel_rfl) ?_ | refine And.intro (by decide) ?_ | refine And.intro (fun _ => ?_) (fun h => absurd h (by decide)) | refine And.intro (fun h => absurd h (by decide)) (fun _ => ?_) | refine ⟨_, _, ixP (by kernel_rfl) (by kernel_rfl) (by decide), ?_⟩ | refine ⟨_, _, u1.at1 2 rfl rfl rfl, ?_⟩ | refine ⟨_, _, r1.at1 2 rfl rfl rfl, ?_⟩ | refine ⟨_, _, c1.pu rfl rfl, ?_⟩ | fail); conv => whnf) | (refine And.intro (fun _ => ?_) (fun _ => ?_) <;> conv => whnf) | fail)
        all_goals try (refine Or.inl ?_; conv => whnf)
      refine ⟨1, ⟨by decide, he⟩, by decide, ?_⟩
      all_goals refine ⟨[], ?_⟩
      repeat (any_goals (first | exact True.intro | exact rfl | with_reducible_and_instances rfl | exact (by kernel_rfl) | refine And.intro ?_ ?_))
      all_goals conv => whnf
    · have c2 := check_no ((itS 1 s).2 : Int) (by omega)
      obtain rfl := hpe 1 (by decide) he
      rw [outP_err he]
      iterate 5
        repeat' (first | exact True.intro | ((first | refine Or.inr ⟨_, _, c2.pu rfl rfl, ?_⟩ | refine And.intro (fun _ => ?_) tf | refine And.intro ft (fun _ => ?_) | refine And.intro (by kernel_rfl) ?_ | refine And.intro (by decide) ?_ | refine And.intro (fun _ => ?_) (fun h => absurd h (by decide)) | refine And.intro (fun h => absurd h (by decide)) (fun _ => ?_) | refine ⟨_, _, ixP (by kernel_rfl) (by kernel_rfl) (by decide), ?_⟩ | refine ⟨_, _, u1.at1 2 rfl rfl rfl, ?_⟩ | refine ⟨_, _, r1.at1 2 rfl rfl rfl, ?_⟩ | fail); conv => whnf) | (refine And.intro (fun _ => ?_) (fun _ => ?_) <;> conv => whnf) | fail)
        all_goals try (refine Or.inl ?_; conv => whnf)
      refine ⟨_, def_pan4 _ _ _ _ _ _ _ _ _ _ _ _ _ _ _ _ _, rfl, ?_⟩
      conv => whnf
      all_goals refine ⟨[], ?_⟩
      repeat (any_goals (first | exact True.intro | exact rfl | with_reducible_and_instances rfl | exact (by kernel_rfl) | refine And.intro ?_ ?_))
      all_goals conv => whnf
  · have u1 := uintG_sat (itS 1 s) (hil 1)
    have r1 := errG_sat (itS 2 s)
    conv => whnf
    by_cases he : (itS 2 s).2 = 0
    · rw [he] at r1
      iterate 5
        repeat' (first | exact True.intro | ((first | refine And.intro (fun _ => ?_) tf | refine And.intro ft (fun _ => ?_) | refine And.intro (by kernel_rfl) ?_ | refine And.intro (by decide) ?_ | refine And.intro (fun _ => ?_) (fun h => absurd h (by decide)) | refine And.intro (fun h => absurd h (by decide)) (fun _ => ?_) | refine ⟨_, _, ixP (by kernel_rfl) (by kernel_rfl) (by decide), ?_⟩ | refine ⟨_, _, u1.at1 2 rfl rfl rfl, ?_⟩ | refine ⟨_, _, r1.at1 2 rfl rfl rfl, ?_⟩ | refine ⟨_, _, c1.pu rfl rfl, ?_⟩ | fail); conv => whnf) | (refine And.intro (fun _ => ?_) (fun _ => ?_) <;> conv => whnf) | fail)
        all_goals try (refine Or.inl ?_; conv => whnf)
      refine ⟨2, ⟨by decide, he⟩, by decide, ?_⟩
      all_goals refine ⟨[], ?_⟩
      repeat (any_goals (first | exact True.intro | exact rfl | with_reducible_and_instances rfl | exact (by kernel_rfl) | refine And.intro ?_ ?_))
      all_goals conv => whnf
    · have c2 := check_no ((itS 2 s).2 : Int) (by omega)
      obtain rfl := hpe 2 (by decide) he
      rw [outP_err he]
      iterate 5
        repeat' (first | exact True.intro | ((first | refine Or.inr ⟨_, _, c2.pu rfl rfl, ?_⟩ | refine And.intro (fun _ => ?_) tf | refine And.intro ft (fun _ => ?_) | refine And.intro (by kernel_rfl) ?_ | refine And.intro (by decide) ?_ | refine And.intro (fun _ => ?_) (fun h => absurd h (by decide)) | refine And.intro (fun h => absurd h (by decide)) (fun _ => ?_) | refine ⟨_, _, ixP (by kernel_rfl) (by kernel_rfl) (by decide), ?_⟩ | refine ⟨_, _, u1.at1 2 rfl rfl rfl, ?_⟩ | refine ⟨_, _, r1.at1 2 rfl rfl rfl, ?_⟩ | fail); conv => whnf) | (refine And.intro (fun _ => ?_) (fun _ => ?_) <;> conv => whnf) | fail)
        all_goals try (refine Or.inl ?_; conv => whnf)
      refine ⟨_, def_pan4 _ _ _ _ _ _ _ _ _ _ _ _ _ _ _ _ _, rfl, ?_⟩
      conv => whnf
      all_goals refine ⟨[], ?_⟩
      repeat (any_goals (first | exact True.intro | exact rfl | with_reducible_and_instances rfl | exact (by kernel_rfl) | refine And.intro ?_ ?_))
      all_goals conv => whnf
  · have u1 := uintG_sat (itS 2 s) (hil 2)
    have r1 := errG_sat (itS 3 s)
    conv => whnf
    by_cases he : (itS 3 s).2 = 0
    · rw [he] at r1
      iterate 5
        repeat' (first | exact True.intro | ((first | refine And.intro (fun _ => ?_) tf | refine And.intro ft (fun _ => ?_) | refine And.intro (by kernel_rfl) ?_ | refine And.intro (by decide) ?_ | refine And.intro (fun _ => ?_) (fun h => absurd h (by decide)) | refine And.intro (fun h => absurd h (by decide)) (fun _ => ?_) | refine ⟨_, _, ixP (by kernel_rfl) (by kernel_rfl) (by decide), ?_⟩ | refine ⟨_, _, u1.at1 2 rfl rfl rfl, ?_⟩ | refine ⟨_, _, r1.at1 2 rfl rfl rfl, ?_⟩ | refine ⟨_, _, c1.pu rfl rfl, ?_⟩ | fail); conv => whnf) | (refine And.intro (fun _ => ?_) (fun _ => ?_) <;> conv => whnf) | fail)
        all_goals try (refine Or.inl ?_; conv => whnf)
      refine ⟨3, ⟨by decide, he⟩, by decide, ?_⟩
      all_goals refine ⟨[], ?_⟩
      repeat (any_goals (first | exact True.intro | exact rfl | with_reducible_and_instances rfl | exact (by kernel_rfl) | refine And.intro ?_ ?_))
      all_goals conv => whnf
    · have c2 := check_no ((itS 3 s).2 : Int) (by omega)
      obtain rfl := hpe 3 (by decide) he
      rw [outP_err he]
      iterate 5
        repeat' (first | exact True.intro | ((first | refine Or.inr ⟨_, _, c2.pu rfl rfl, ?_⟩ | refine And.intro (fun _ => ?_) tf | refine And.intro ft (fun _ => ?_) | refine And.intro (by kernel_rfl) ?_ | refine And.intro (by decide) ?_ | refine And.intro (fun _ => ?_) (fun h => absurd h (by decide)) | refine And.intro (fun h => absurd h (by decide)) (fun _ => ?_) | refine ⟨_, _, ixP (by kernel_rfl) (by kernel_rfl) (by decide), ?_⟩ | refine ⟨_, _, u1.at1 2 rfl rfl rfl, ?_⟩ | refine ⟨_, _, r1.at1 2 rfl rfl rfl, ?_⟩ | fail); conv => whnf) | (refine And.intro (fun _ => ?_) (fun _ => ?_) <;> conv => whnf) | fail)
        all_goals try (refine Or.inl ?_; conv => whnf)
      refine ⟨_, def_pan4 _ _ _ _ _ _ _ _ _ _ _ _ _ _ _ _ _, rfl, ?_⟩
      conv => whnf
      all_goals refine ⟨[], ?_⟩
      repeat (any_goals (first | exact True.intro | exact rfl | with_reducible_and_instances rfl | exact (by kernel_rfl) | refine And.intro ?_ ?_))
      all_goals conv => whnf
  have hq := hpg hI
  replace hq : PP = finP (frS 6 3 s [] ([], []) []) (itS 3 s) := hq
  have e1 := endG_sat (itS 3 s) (hil 3)
  conv => whnf
  by_cases he : (endS (itS 3 s)).2 = 0
  case neg =>
    have c2 := check_no ((endS (itS 3 s)).2 : Int) (by omega)
    rw [finP_end he] at hq
    subst hq
    rw [outP_err he]
    iterate 5
      repeat' (first | exact True.intro | ((first | refine Or.inr ⟨_, _, c2.pu rfl rfl, ?_⟩ | refine And.intro (fun _ => ?_) tf | refine And.intro ft (fun _ => ?_) | refine And.intro (by kernel_rfl) ?_ | refine And.intro (by decide) ?_ | refine And.intro (fun _ => ?_) (fun h => absurd h (by decide)) | refine And.intro (fun h => absurd h (by decide)) (fun _ => ?_) | refine ⟨_, _, e1.at1 2 rfl rfl rfl, ?_⟩ | fail); conv => whnf) | (refine And.intro (fun _ => ?_) (fun _ => ?_) <;> conv => whnf) | fail)
      all_goals try (refine Or.inl ?_; conv => whnf)
    refine ⟨_, def_pan4 _ _ _ _ _ _ _ _ _ _ _ _ _ _ _ _ _, rfl, ?_⟩
    conv => whnf
    all_goals refine ⟨[], ?_⟩
    repeat (any_goals (first | exact True.intro | exact rfl | with_reducible_and_instances rfl | exact (by kernel_rfl) | refine And.intro ?_ ?_))
    all_goals conv => whnf
  rw [he] at e1
  have hfo := frS_ok 6 3 s (by decide) (ev := []) (sr := ([], [])) [] (by simp) (by simp) (by simp)
  have r1 := right_pre (frS 6 3 s [] ([], []) []) hfo (xs := nilR (frS 6 3 s [] ([], []) [])) (by repeat' (first | exact trivial | refine And.intro ?_ ?_ | exact .inl rfl | exact .inr ⟨rfl, _, rfl⟩))
  cases hr : rightF (frS 6 3 s [] ([], []) []) with
  | false =>
    rw [hr] at r1
    rw [finP_no he hr] at hq
    subst hq
    rw [outP_err (by decide)]
    iterate 5
      repeat' (first | exact True.intro | ((first | refine And.intro (fun _ => ?_) tf | refine And.intro ft (fun _ => ?_) | refine And.intro (by kernel_rfl) ?_ | refine And.intro (by decide) ?_ | refine And.intro (fun _ => ?_) (fun h => absurd h (by decide)) | refine And.intro (fun h => absurd h (by decide)) (fun _ => ?_) | refine ⟨_, _, e1.at1 2 rfl rfl rfl, ?_⟩ | refine ⟨_, _, c1.pu rfl rfl, ?_⟩ | refine ⟨_, _, r1.pu rfl rfl, ?_⟩ | refine ⟨_, _, mkI 10, ?_⟩ | fail); conv => whnf) | (refine And.intro (fun _ => ?_) (fun _ => ?_) <;> conv => whnf) | fail)
      all_goals try (refine Or.inl ?_; conv => whnf)
    refine ⟨_, def_pan4 _ _ _ _ _ _ _ _ _ _ _ _ _ _ _ _ _, rfl, ?_⟩
    conv => whnf
    all_goals refine ⟨[], ?_⟩
    repeat (any_goals (first | exact True.intro | exact rfl | with_reducible_and_instances rfl | exact (by kernel_rfl) | refine And.intro ?_ ?_))
    all_goals conv => whnf
  | true =>
    rw [hr] at r1
    rw [finP_ok he hr] at hq
    subst hq
    iterate 5
      repeat' (first | exact True.intro | ((first | refine And.intro (fun _ => ?_) tf | refine And.intro ft (fun _ => ?_) | refine And.intro (by kernel_rfl) ?_ | refine And.intro (by decide) ?_ | refine And.intro (fun _ => ?_) (fun h => absurd h (by decide)) | refine And.intro (fun h => absurd h (by decide)) (fun _ => ?_) | refine ⟨_, _, e1.at1 2 rfl rfl rfl, ?_⟩ | refine ⟨_, _, c1.pu rfl rfl, ?_⟩ | refine ⟨_, _, r1.pu rfl rfl, ?_⟩ | fail); conv => whnf) | (refine And.intro (fun _ => ?_) (fun _ => ?_) <;> conv => whnf) | fail)
      all_goals try (refine Or.inl ?_; conv => whnf)
    refine ⟨_, def_retN _ _ _ _ _ _ _ _ _ _ _ _, rfl, ?_⟩
    conv => whnf
    all_goals refine ⟨[], ?_⟩
    repeat (any_goals (first | exact True.intro | exact rfl | with_reducible_and_instances rfl | exact (by kernel_rfl) | refine And.intro ?_ ?_))
    all_goals conv => whnf
set_option maxHeartbeats 8000000 in
theorem parse_7 (l : Bt) (hl : l.length ≤ 65536) (s : Rs) (hu : uintS (l, 0) = (7, s)) (hs : s.2 = 0) : Sat Try.prog 19 [.d (bsD l)] [] (outP 7 (parseK 7 s)) [] := by
  have n1 := newG_sat l hl
  have k1 := kind_ok (l, 0) hl (by rw [hu]; exact hs) (by rw [hu]; exact (by decide : 1 ≤ 7)) (by rw [hu]; exact (by decide : 7 ≤ 8))
  rw [hu] at k1
  have hsl : s.1.length ≤ 65536 := by have := uintS_len (l, 0); rw [hu] at this; exact Nat.le_trans this hl
  have hil : ∀ i, (itS i s).1.length ≤ 65536 := fun i => Nat.le_trans (itS_len s i) hsl
  have f2 := fields_n 7 (by decide) (by decide) 0 0 0 0 0 0 0 0 0
  have c1 := check_ok
  have hpe := fun i => parseK_err (k := 7) (s := s) i
  have hpg := parseK_go (k := 7) (s := s)
  generalize hP : parseK 7 s = PP at *
  refine satD_of_vc (T := tiOf Try.prog) (E := E0) (gc := 32) (ys := [.ptr 0 0, .ptr 1 0]) PnF Try.func19 rfl rfl hE0 hm0 rfl rfl rfl rfl rfl rfl rfl rfl rfl ?_
  conv => whnf
  iterate 5
    repeat' (first | exact True.intro | ((first | refine And.intro (fun _ => ?_) tf | refine And.intro ft (fun _ => ?_) | refine And.intro (by kernel_rfl) ?_ | refine And.intro (by decide) ?_ | refine And.intro (fun _ => ?_) (fun h => absurd h (by decide)) | refine And.intro (fun h => absurd h (by decide)) (fun _ => ?_) | refine ⟨_, _, n1.nw rfl, ?_⟩ | refine ⟨_, _, k1.at1 2 rfl rfl rfl, ?_⟩ | refine ⟨_, _, f2.at1 0 rfl rfl rfl, ?_⟩ | refine ⟨_, _, lenP (by kernel_rfl), ?_⟩ | fail); conv => whnf) | (refine And.intro (fun _ => ?_) (fun _ => ?_) <;> conv => whnf) | fail)
    all_goals try (refine Or.inl ?_; conv => whnf)
  all_goals try (exfalso; simp only [decide_eq_true_eq, decide_eq_false_iff_not, Bool.not_eq_true', Bool.not_eq_false', Bool.not_eq_true, Bool.not_eq_false, beq_iff_eq, bne_iff_ne, beq_eq_false_iff_ne, bne_eq_false_iff_eq, ne_eq, Decidable.not_not] at *; first | omega | contradiction | (simp_all; done) | (simp_all; omega))
  refine ⟨Nat, fun i => i ≤ 4 ∧ (itS i s).2 = 0, fun i => ([(16, iA i), (15, iA 4), (14, .rel 3 (slP 4)), (4, .ptr 2 0), (3, .ptr 1 0), (2, .ptr 0 0)], [.cells (frN 7 (vb 7 i s 1) (vb 7 i s 2) (vb 7 i s 3) (vb 7 i s 4) (vb 7 i s 5) (vb 7 i s 6) (vb 7 i s 7) (vb 7 i s 8) (vb 7 i s 9)), .cells [iA 0], rsO (itS i s), .cells (ptrsK 7)]), fun i => 4 - i, ⟨0, ⟨Nat.zero_le _, hs⟩, ?_⟩, ?_⟩
  · all_goals refine ⟨[], ?_⟩
    repeat (any_goals (first | exact True.intro | exact rfl | with_reducible_and_instances rfl | exact (by kernel_rfl) | refine And.intro ?_ ?_))
    all_goals conv => whnf
  rintro i ⟨hi, hI⟩
  have hi : i ≤ 4 := hi
  obtain rfl | rfl | rfl | rfl | rfl : i = 0 ∨ i = 1 ∨ i = 2 ∨ i = 3 ∨ i = 4 := by omega
  · have u1 := uintG_sat (itS 0 s) (hil 0)
    have r1 := errG_sat (itS 1 s)
    conv => whnf
    by_cases he : (itS 1 s).2 = 0
    · rw [he] at r1
      iterate 5
        repeat' (first | exact True.intro | ((first | refine And.intro (fun _ => ?_) tf | refine And.intro ft (fun _ => ?_) | refine And.intro (by kernel_rfl) ?_ | refine And.intro (by decide) ?_ | refine And.intro (fun _ => ?_) (fun h => absurd h (by decide)) | refine And.intro (fun h => absurd h (by decide)) (fun _ => ?_) | refine ⟨_, _, ixP (by kernel_rfl) (by kernel_rfl) (by decide), ?_⟩ | refine ⟨_, _, u1.at1 2 rfl rfl rfl, ?_⟩ | refine ⟨_, _, r1.at1 2 rfl rfl rfl, ?_⟩ | refine ⟨_, _, c1.pu rfl rfl, ?_⟩ | fail); conv => whnf) | (refine And.intro (fun _ => ?_) (fun _ => ?_) <;> conv => whnf) | fail)
        all_goals try (refine Or.inl ?_; conv => whnf)
      refine ⟨1, ⟨by decide, he⟩, by decide, ?_⟩
      all_goals refine ⟨[], ?_⟩
      repeat (any_goals (first | exact True.intro | exact rfl | with_reducible_and_instances rfl | exact (by kernel_rfl) | refine And.intro ?_ ?_))
      all_goals conv => whnf
    · have c2 := check_no ((itS 1 s).2 : Int) (by omega)
      obtain rfl := hpe 1 (by decide) he
      rw [outP_err he]
      iterate 5
        repeat' (first | exact True.intro | ((first | refine Or.inr ⟨_, _, c2.pu rfl rfl, ?_⟩ | refine And.intro (fun _ => ?_) tf | refine And.intro ft (fun _ => ?_) | refine And.intro (by kernel_rfl) ?_ | refine And.intro (by decide) ?_ | refine And.intro (fun _ => ?_) (fun h => absurd h (by decide)) | refine And.intro (fun h => absurd h (by decide)) (fun _ => ?_) | refine ⟨_, _, ixP (by kernel_rfl) (by kernel_rfl) (by decide), ?_⟩ | refine ⟨_, _, u1.at1 2 rfl rfl rfl, ?_⟩ | refine ⟨_, _, r1.at1 2 rfl rfl rfl, ?_⟩ | fail); conv => whnf) | (refine And.intro (fun _ => ?_) (fun _ => ?_) <;> conv => whnf) | fail)
        all_goals try (refine Or.inl ?_; conv => whnf)
      refine ⟨_, def_pan4 _ _ _ _ _ _ _ _ _ _ _ _ _ _ _ _ _, rfl, ?_⟩
      conv => whnf
      all_goals refine ⟨[], ?_⟩
      repeat (any_goals (first | exact True.intro | exact rfl | with_reducible_and_instances rfl | exact (by kernel_rfl) | refine And.intro ?_ ?_))
      all_goals conv => whnf
  · have u1 := uintG_sat (itS 1 s) (hil 1)
    have r1 := errG_sat (itS 2 s)
    conv => whnf
    by_cases he : (itS 2 s).2 = 0
    · rw [he] at r1
      iterate 5
        repeat' (first | exact True.intro | ((first | refine And.intro (fun _ => ?_) tf | refine And.intro ft (fun _ => ?_) | refine And.intro (by kernel_rfl) ?_ | refine And.intro (by decide) ?_ | refine And.intro (fun _ => ?_) (fun h => absurd h (by decide)) | refine And.intro (fun h => absurd h (by decide)) (fun _ => ?_) | refine ⟨_, _, ixP (by kernel_rfl) (by kernel_rfl) (by decide), ?_⟩ | refine ⟨_, _, u1.at1 2 rfl rfl rfl, ?_⟩ | refine ⟨_, _, r1.at1 2 rfl rfl rfl, ?_⟩ | refine ⟨_, _, c1.pu rfl rfl, ?_⟩ | fail); conv => whnf) | (refine And.intro (fun _ => ?_) (fun _ => ?_) <;> conv => whnf) | fail)
        all_goals try (refine Or.inl ?_; conv => whnf)
      refine ⟨2, ⟨by decide, he⟩, by decide, ?_⟩
      all_goals refine ⟨[], ?_⟩
      repeat (any_goals (first | exact True.intro | exact rfl | with_reducible_and_instances rfl | exact (by kernel_rfl) | refine And.intro ?_ ?_))
      all_goals conv => whnf
    · have c2 := check_no ((itS 2 s).2 : Int) (by omega)
      obtain rfl := hpe 2 (by decide) he
      rw [outP_err he]
      iterate 5
        repeat' (first | exact True.intro | ((first | refine Or.inr ⟨_, _, c2.pu rfl rfl, ?_⟩ | refine And.intro (fun _ => ?_) tf | refine And.intro ft (fun _ => ?_) | refine And.intro (by kernel_rfl) ?_ | refine And.intro (by decide) ?_ | refine And.intro (fun _ => ?_) (fun h => absurd h (by decide)) | refine And.intro (fun h => absurd h (by decide)) (fun _ => ?_) | refine ⟨_, _, ixP (by kernel_rfl) (by kernel_rfl) (by decide), ?_⟩ | refine ⟨_, _, u1.at1 2 rfl rfl rfl, ?_⟩ | refine ⟨_, _, r1.at1 2 rfl rfl rfl, ?_⟩ | fail); conv => whnf) | (refine And.intro (fun _ => ?_) (fun _ => ?_) <;> conv => whnf) | fail)
        all_goals try (refine Or.inl ?_; conv => whnf)
      refine ⟨_, def_pan4 _ _ _ _ _ _ _ _ _ _ _ _ _ _ _ _ _, rfl, ?_⟩
      conv => whnf
      all_goals refine ⟨[], ?_⟩
      repeat (any_goals (first | exact True.intro | exact rfl | with_reducible_and_instances rfl | exact (by kernel_rfl) | refine And.intro ?_ ?_))
      all_goals conv => whnf
  · have u1 := uintG_sat (itS 2 s) (hil 2)
    have r1 := errG_sat (itS 3 s)
    conv => whnf
    by_cases he : (itS 3 s).2 = 0
    · rw [he] at r1
      iterate 5
        repeat' (first | exact True.intro | ((first | refine And.intro (fun _ => ?_) tf | refine And.intro ft (fun _ => ?_) | refine And.intro (by kernel_rfl) ?_ | refine And.intro (by decide) ?_ | refine And.intro (fun _ => ?_) (fun h => absurd h (by decide)) | refine And.intro (fun h => absurd h (by decide)) (fun _ => ?_) | refine ⟨_, _, ixP (by kernel_rfl) (by kernel_rfl) (by decide), ?_⟩ | refine ⟨_, _, u1.at1 2 rfl rfl rfl, ?_⟩ | refine ⟨_, _, r1.at1 2 rfl rfl rfl, ?_⟩ | refine ⟨_, _, c1.pu rfl rfl, ?_⟩ | fail); conv => whnf) | (refine And.intro (fun _ => ?_) (fun _ => ?_) <;> conv => whnf) | fail)
        all_goals try (refine Or.inl ?_; conv => whnf)
      refine ⟨3, ⟨by decide, he⟩, by decide, ?_⟩
      all_goals refine ⟨[], ?_⟩
      repeat (any_goals (first | exact True.intro | exact rfl | with_reducible_and_instances rfl | exact (by kernel_rfl) | refine And.intro ?_ ?_))
      all_goals conv => whnf
    · have c2 := check_no ((itS 3 s).2 : Int) (by omega)
      obtain rfl := hpe 3 (by decide) he
      rw [outP_err he]
      iterate 5
        repeat' (first | exact True.intro | ((first | refine Or.inr ⟨_, _, c2.pu rfl rfl, ?_⟩ | refine And.intro (fun _ => ?_) tf | refine And.intro ft (fun _ => ?_) | refine And.intro (by kernel_rfl) ?_ | refine And.intro (by decide) ?_ | refine And.intro (fun _ => ?_) (fun h => absurd h (by decide)) | refine And.intro (fun h => absurd h (by decide)) (fun _ => ?_) | refine ⟨_, _, ixP (by kernel_rfl) (by kernel_rfl) (by decide), ?_⟩ | refine ⟨_, _, u1.at1 2 rfl rfl rfl, ?_⟩ | refine ⟨_, _, r1.at1 2 rfl rfl rfl, ?_⟩ | fail); conv => whnf) | (refine And.intro (fun _ => ?_) (fun _ => ?_) <;> conv => whnf) | fail)
        all_goals try (refine Or.inl ?_; conv => whnf)
      refine ⟨_, def_pan4 _ _ _ _ _ _ _ _ _ _ _ _ _ _ _ _ _, rfl, ?_⟩
      conv => whnf
      all_goals refine ⟨[], ?_⟩
      repeat (any_goals (first | exact True.intro | exact rfl | with_reducible_and_instances rfl | exact (by kernel_rfl) | refine And.intro ?_ ?_))
      all_goals conv => whnf
  · have u1 := uintG_sat (itS 3 s) (hil 3)
    have r1 := errG_sat (itS 4 s)
    conv => whnf
    by_cases he : (itS 4 s).2 = 0
    · rw [he] at r1
      iterate 5
        repeat' (first | exact True.intro | ((first | refine And.intro (fun _ => ?_) tf | refine And.intro ft (fun _ => ?_) | refine And.intro (by kernel_rfl) ?_ | refine And.intro (by decide) ?_ | refine And.intro (fun _ => ?_) (fun h => absurd h (by decide)) | refine And.intro (fun h => absurd h (by decide)) (fun _ => ?_) | refine ⟨_, _, ixP (by kernel_rfl) (by kernel_rfl) (by decide), ?_⟩ | refine ⟨_, _, u1.at1 2 rfl rfl rfl, ?_⟩ | refine ⟨_, _, r1.at1 2 rfl rfl rfl, ?_⟩ | refine ⟨_, _, c1.pu rfl rfl, ?_⟩ | fail); conv => whnf) | (refine And.intro (fun _ => ?_) (fun _ => ?_) <;> conv => whnf) | fail)
        all_goals try (refine Or.inl ?_; conv => whnf)
      refine ⟨4, ⟨by decide, he⟩, by decide, ?_⟩
      all_goals refine ⟨[], ?_⟩
      repeat (any_goals (first | exact True.intro | exact rfl | with_reducible_and_instances rfl | exact (by kernel_rfl) | refine And.intro ?_ ?_))
      all_goals conv => whnf
    · have c2 := check_no ((itS 4 s).2 : Int) (by omega)
      obtain rfl := hpe 4 (by decide) he
      rw [outP_err he]
      iterate 5
        repeat' (first | exact True.intro | ((first | refine Or.inr ⟨_, _, c2.pu rfl rfl, ?_⟩ | refine And.intro (fun _ => ?_) tf | refine And.intro ft (fun _ => ?_) | refine And.intro (by kernel_rfl) ?_ | refine And.intro (by decide) ?_ | refine And.intro (fun _ => ?_) (fun h => absurd h (by decide)) | refine And.intro (fun h => absurd h (by decide)) (fun _ => ?_) | refine ⟨_, _, ixP (by kernel_rfl) (by kernel_rfl) (by decide), ?_⟩ | refine ⟨_, _, u1.at1 2 rfl rfl rfl, ?_⟩ | refine ⟨_, _, r1.at1 2 rfl rfl rfl, ?_⟩ | fail); conv => whnf) | (refine And.intro (fun _ => ?_) (fun _ => ?_) <;> conv => whnf) | fail)
        all_goals try (refine Or.inl ?_; conv => whnf)
      refine ⟨_, def_pan4 _ _ _ _ _ _ _ _ _ _ _ _ _ _ _ _ _, rfl, ?_⟩
      conv => whnf
      all_goals refine ⟨[], ?_⟩
      repeat (any_goals (first | exact True.intro | exact rfl | with_reducible_and_instances rfl | exact (by kernel_rfl) | refine And.intro ?_ ?_))
      all_goals conv => whnf
  have hq := hpg hI
  replace hq : PP = finP (frS 7 4 s [] ([], []) []) (itS 4 s) := hq
  have e1 := endG_sat (itS 4 s) (hil 4)
  conv => whnf
  by_cases he : (endS (itS 4 s)).2 = 0
  case neg =>
    have c2 := check_no ((endS (itS 4 s)).2 : Int) (by omega)
    rw [finP_end he] at hq
    subst hq
    rw [outP_err he]
    iterate 5
      repeat' (first | exact True.intro | ((first | refine Or.inr ⟨_, _, c2.pu rfl rfl, ?_⟩ | refine And.intro (fun _ => ?_) tf | refine And.intro ft (fun _ => ?_) | refine And.intro (by kernel_rfl) ?_ | refine And.intro (by decide) ?_ | refine And.intro (fun _ => ?_) (fun h => absurd h (by decide)) | refine And.intro (fun h => absurd h (by decide)) (fun _ => ?_) | refine ⟨_, _, e1.at1 2 rfl rfl rfl, ?_⟩ | fail); conv => whnf) | (refine And.intro (fun _ => ?_) (fun _ => ?_) <;> conv => whnf) | fail)
      all_goals try (refine Or.inl ?_; conv => whnf)
    refine ⟨_, def_pan4 _ _ _ _ _ _ _ _ _ _ _ _ _ _ _ _ _, rfl, ?_⟩
    conv => whnf
    all_goals refine ⟨[], ?_⟩
    repeat (any_goals (first | exact True.intro | exact rfl | with_reducible_and_instances rfl | exact (by kernel_rfl) | refine And.intro ?_ ?_))
    all_goals conv => whnf
  rw [he] at e1
  have hfo := frS_ok 7 4 s (by decide) (ev := []) (sr := ([], [])) [] (by simp) (by simp) (by simp)
  have r1 := right_pre (frS 7 4 s [] ([], []) []) hfo (xs := nilR (frS 7 4 s [] ([], []) [])) (by repeat' (first | exact trivial | refine And.intro ?_ ?_ | exact .inl rfl | exact .inr ⟨rfl, _, rfl⟩))
  cases hr : rightF (frS 7 4 s [] ([], []) []) with
  | false =>
    rw [hr] at r1
    rw [finP_no he hr] at hq
    subst hq
    rw [outP_err (by decide)]
    iterate 5
      repeat' (first | exact True.intro | ((first | refine And.intro (fun _ => ?_) tf | refine And.intro ft (fun _ => ?_) | refine And.intro (by kernel_rfl) ?_ | refine And.intro (by decide) ?_ | refine And.intro (fun _ => ?_) (fun h => absurd h (by decide)) | refine And.intro (fun h => absurd h (by decide)) (fun _ => ?_) | refine ⟨_, _, e1.at1 2 rfl rfl rfl, ?_⟩ | refine ⟨_, _, c1.pu rfl rfl, ?_⟩ | refine ⟨_, _, r1.pu rfl rfl, ?_⟩ | refine ⟨_, _, mkI 10, ?_⟩ | fail); conv => whnf) | (refine And.intro (fun _ => ?_) (fun _ => ?_) <;> conv => whnf) | fail)
      all_goals try (refine Or.inl ?_; conv => whnf)
    refine ⟨_, def_pan4 _ _ _ _ _ _ _ _ _ _ _ _ _ _ _ _ _, rfl, ?_⟩
    conv => whnf
    all_goals refine ⟨[], ?_⟩
    repeat (any_goals (first | exact True.intro | exact rfl | with_reducible_and_instances rfl | exact (by kernel_rfl) | refine And.intro ?_ ?_))
    all_goals conv => whnf
  | true =>
    rw [hr] at r1
    rw [finP_ok he hr] at hq
    subst hq
    iterate 5
      repeat' (first | exact True.intro | ((first | refine And.intro (fun _ => ?_) tf | refine And.intro ft (fun _ => ?_) | refine And.intro (by kernel_rfl) ?_ | refine And.intro (by decide) ?_ | refine And.intro (fun _ => ?_) (fun h => absurd h (by decide)) | refine And.intro (fun h => absurd h (by decide)) (fun _ => ?_) | refine ⟨_, _, e1.at1 2 rfl rfl rfl, ?_⟩ | refine ⟨_, _, c1.pu rfl rfl, ?_⟩ | refine ⟨_, _, r1.pu rfl rfl, ?_⟩ | fail); conv => whnf) | (refine And.intro (fun _ => ?_) (fun _ => ?_) <;> conv => whnf) | fail)
      all_goals try (refine Or.inl ?_; conv => whnf)
    refine ⟨_, def_retN _ _ _ _ _ _ _ _ _ _ _ _, rfl, ?_⟩
    conv => whnf
    all_goals refine ⟨[], ?_⟩
    repeat (any_goals (first | exact True.intro | exact rfl | with_reducible_and_instances rfl | exact (by kernel_rfl) | refine And.intro ?_ ?_))
    all_goals conv => whnf
end Go.Proofs.Ytfbfpnfgabamfaa
