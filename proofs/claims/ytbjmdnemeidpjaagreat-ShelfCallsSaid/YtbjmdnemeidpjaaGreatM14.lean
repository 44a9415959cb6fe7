/- Parts CeP, CeW, ShN, ShO, ShK, At4, ShP of the proof, put together. -/
import Derived.Test.YtbjmdnemeidpjaaGreatM13
/- Cells that are handed in. -/
namespace Go.Proofs.YtbjmdnemeidpjaaGreat
set_option linter.unusedSimpArgs false
set_option linter.unusedVariables false
open Go.RowKit
set_option maxRecDepth 100000
theorem ty_wideD {m : Nat} {ds : List D} (h : Ty Tryz.prog (m + 2) 37 ds) : ∃ K, ds = [iD (hiZ K), uZ (loZ K)] ∧ in64 (hiZ K) := by
  have h : TyB (Ty Tryz.prog (m + 1)) Tryz.prog 37 ds := h
  unfold TyB at h
  rw [Tryz.underlying37] at h
  obtain ⟨dss, e0, g3⟩ := h
  obtain ⟨d1, r1, e1, h1, g4⟩ := g3
  obtain ⟨d2, r2, e2, h2, g5⟩ := g4
  have g5 : r2 = [] := g5
  subst e0 e1 e2 g5
  obtain ⟨hi, rfl, hh⟩ := ty_long1 h1 Tryz.underlying2
  have h2 : TyB (Ty Tryz.prog m) Tryz.prog 35 d2 := h2
  unfold TyB at h2
  rw [Tryz.underlying35] at h2
  obtain ⟨lo, rfl, hl⟩ := h2
  simp only [Lit.wf, Bool.and_eq_true, decide_eq_true_eq] at hl
  have hl : 0 ≤ lo ∧ lo ≤ 18446744073709551615 := hl
  obtain ⟨e1, e2⟩ := wideZ_hi (hi := hi) hl.1 (by unfold word; omega)
  refine ⟨wideZ hi lo, ?_, by rw [e1]; exact hh⟩
  rw [e1, e2]
  rfl
/-- A cell that is handed in. -/
theorem ty_cells {m : Nat} {ds : List D} (h : Ty Tryz.prog (m + 3) 41 ds) : ∃ c, ds = cR c ∧ CelOK c := by
  have h : TyB (Ty Tryz.prog (m + 2)) Tryz.prog 41 ds := h
  unfold TyB at h
  rw [Tryz.underlying41] at h
  obtain ⟨dss, e0, h⟩ := h
  obtain ⟨d1, r1, e1, h1, h⟩ := h
  obtain ⟨d2, r2, e2, h2, h⟩ := h
  obtain ⟨d3, r3, e3, h3, h⟩ := h
  obtain ⟨d4, r4, e4, h4, h⟩ := h
  obtain ⟨d5, r5, e5, h5, h⟩ := h
  obtain ⟨d6, r6, e6, h6, h⟩ := h
  obtain ⟨d7, r7, e7, h7, h⟩ := h
  obtain rfl : r7 = [] := h
  subst e7 e6 e5 e4 e3 e2 e1 e0
  obtain ⟨n, rfl, g1⟩ := ty_long1 h1 Tryz.underlying2
  obtain ⟨K, rfl, g2⟩ := ty_wideD h2
  obtain ⟨mn, rfl, g3⟩ := ty_long1 h3 Tryz.underlying2
  obtain ⟨mx, rfl, g4⟩ := ty_long1 h4 Tryz.underlying2
  obtain ⟨ce, rfl, g5⟩ := ty_long1 h5 Tryz.underlying2
  obtain ⟨po, rfl, g6⟩ := ty_long1 h6 Tryz.underlying2
  obtain ⟨q, rfl, g7, g8⟩ := ty_harr h7 Tryz.underlying39 Tryz.underlying2
  refine ⟨⟨n, K, mn, mx, ce, po, q⟩, ?_, ⟨g1, g2, g3, g4, g5, g6, g7, g8⟩⟩
  simp [cR]
end Go.Proofs.YtbjmdnemeidpjaaGreat
/- CellFolds: every Fold, Right, Add and Note answers what the document says. -/
namespace Go.Proofs.YtbjmdnemeidpjaaGreat
set_option linter.unusedSimpArgs false
set_option linter.unusedVariables false
open Go.RowKit
set_option maxRecDepth 100000
theorem of_sat_c (c : Cel) (hl : c.h.length = 65) : Sat Tryz.prog 13 [.d (cD c)] [] (.d (cD c)) [] := by
  refine sat_of_vc (T := tiOf Tryz.prog) (E := E0) Tryz.func13 rfl rfl hE0 hm0 rfl ?_
  conv => whnf
  iterate 3
    repeat' (first | exact True.intro | ((first | refine And.intro (whole_len s69 hl) ?_ | refine And.intro (whole_len s68 hl) ?_ | refine ⟨_, hist_cell s69 hl, whole_len s69 hl, ?_⟩ | refine ⟨_, build_two hl, ?_⟩ | refine ⟨_, drop_id, ?_⟩ | refine ⟨_, _, at_n, ?_⟩ | refine ⟨_, _, at_hi, ?_⟩ | refine ⟨_, _, at_lo, ?_⟩ | refine ⟨_, _, at_mn, ?_⟩ | refine ⟨_, _, at_mx, ?_⟩ | refine ⟨_, _, at_ce, ?_⟩ | refine ⟨_, _, at_po, ?_⟩ | refine ⟨_, whole_z sC, clenz sC, ?_⟩ | refine ⟨_, setzC, ?_⟩ | refine And.intro (clenz sC) ?_ | refine And.intro fitzC ?_ | refine ⟨_, whole_cell sC hl, clen sC hl, ?_⟩ | refine And.intro (clen sC hl) ?_ | refine And.intro (fitC hl) ?_ | refine ⟨_, setC hl, ?_⟩ | refine ⟨_, whole_z sF, clenz sF, ?_⟩ | refine ⟨_, setzF, ?_⟩ | refine And.intro (clenz sF) ?_ | refine And.intro fitzF ?_ | refine ⟨_, whole_cell sF hl, clen sF hl, ?_⟩ | refine And.intro (clen sF hl) ?_ | refine And.intro (fitF hl) ?_ | refine ⟨_, setF hl, ?_⟩ | refine And.intro (fit1 hl (by decide)) ?_ | refine And.intro (fit1 rfl (by decide)) ?_ | refine ⟨_, sum_cell s25, rfl, ?_⟩ | refine ⟨_, set_n _, ?_⟩ | refine ⟨_, set_mn _, ?_⟩ | refine ⟨_, set_mx _, ?_⟩ | refine ⟨_, set_ce _, ?_⟩ | refine ⟨_, set_po _, ?_⟩ | refine ⟨_, set_s _, ?_⟩ | refine ⟨_, set_hi _, ?_⟩ | refine ⟨_, set_lo _, ?_⟩ | refine And.intro (fun _ => ?_) tf | refine And.intro ft (fun _ => ?_) | refine And.intro (by kernel_rfl) ?_ | refine And.intro (by decide) ?_ | refine And.intro (fun _ => ?_) (fun h => absurd h (by decide)) | refine And.intro (fun h => absurd h (by decide)) (fun _ => ?_) | fail); conv => whnf) | (refine And.intro (fun _ => ?_) (fun _ => ?_) <;> conv => whnf) | fail)
    all_goals try (refine Or.inl ?_; conv => whnf)
  all_goals refine ⟨[], ?_⟩
  repeat (any_goals (first | exact True.intro | exact rfl | with_reducible_and_instances rfl | exact (by kernel_rfl) | refine And.intro ?_ ?_))
  all_goals conv => whnf
theorem addC_merge {c : Cel} {v : Int} (hc : CelOK c) (hv : in64 v) : mergeC [c, foldC [v]] = addC c v := by
  have hv1 : ∀ z ∈ [v], in64 z := fun z hz => by simp at hz; subst hz; exact hv
  have r2 := right_iff.2 (foldC_right hv1)
  by_cases hr : rightC c = true
  case neg =>
    have hr : rightC c = false := by simpa using hr
    unfold mergeC addC
    rw [if_pos (by rw [List.all_cons, hr]; rfl), if_pos hr]
  have hR := right_iff.1 hr
  have hall : [c, foldC [v]].all rightC = true := by rw [List.all_cons, List.all_cons, hr, r2]; rfl
  have e1 : sumN [c, foldC [v]] = c.n + 1 := by show c.n + (((([v] : List Int).length : Nat) : Int) + 0) = c.n + 1; simp
  have e2 : sumCe [c, foldC [v]] = c.ce := by show c.ce + ((0 : Int) + 0) = c.ce; omega
  have e3 : sumPo [c, foldC [v]] = c.po := by show c.po + ((0 : Int) + 0) = c.po; omega
  have e4 : sumS [c, foldC [v]] = c.s + v := by show c.s + ((v + 0) + 0) = c.s + v; omega
  have h1 := hc.n
  have h2 := hc.ce
  have h3 := hc.po
  have hfit : fitsC [c, foldC [v]] = (decide (c.n ≠ big) && decide (in128 (c.s + v))) := by
    rw [fits_iff, e1, e2, e3, e4]
    rw [decide_eq_true (p := c.ce ≤ 9223372036854775807) (by unfold in64 at h2; omega), decide_eq_true (p := c.po ≤ 9223372036854775807) (by unfold in64 at h3; omega)]
    have : decide (c.n + 1 ≤ 9223372036854775807) = decide (c.n ≠ big) := by
      rw [Bool.eq_iff_iff, decide_eq_true_eq, decide_eq_true_eq]
      unfold in64 at h1; unfold big; omega
    rw [this, Bool.and_true, Bool.and_true]
  unfold mergeC
  rw [if_neg (by rw [hall]; simp), hfit]
  by_cases hn : c.n = big
  · rw [if_pos (by simp [hn])]
    unfold addC
    rw [if_neg (by rw [hr]; simp), if_pos hn]
  by_cases hs : in128 (c.s + v)
  case neg =>
    rw [if_pos (by simp [hs])]
    unfold addC
    rw [if_neg (by rw [hr]; simp), if_neg hn, if_pos hs]
  rw [if_neg (by simp [hn, hs]), addC_fine hR hn hs]
  obtain ⟨a1, a2⟩ := hist_fine hc hR hv hn
  obtain ⟨b1, b2⟩ := add_merge c.h v hc.hl hv hc.hx
  have hm : mergeL [c.h, histL [v]] = bump c.h (bkt v) := by
    have q : mergeE [c.h, histL [v]] = 0 := by rw [← b2]; exact a1
    unfold mergeR at b1
    rw [if_pos q] at b1
    rw [← b1]; exact a2
  have n1 : ¬ (foldC [v]).n = 0 := by show ¬ (((([v] : List Int).length : Nat) : Int) = 0); simp
  refine congrArg (·, (0 : Int)) (Cel.ext' e1 e4 ?_ ?_ e2 e3 hm)
  · show mmin ((full [c, foldC [v]]).map (·.mn)) = if c.n = 0 then v else min c.mn v
    rw [full_two, if_neg n1]
    by_cases q : c.n = 0
    · rw [if_pos q, if_pos q]; rfl
    · rw [if_neg q, if_neg q]; rfl
  · show mmax ((full [c, foldC [v]]).map (·.mx)) = if c.n = 0 then v else max c.mx v
    rw [full_two, if_neg n1]
    by_cases q : c.n = 0
    · rw [if_pos q, if_pos q]; rfl
    · rw [if_neg q, if_neg q]; rfl
end Go.Proofs.YtbjmdnemeidpjaaGreat
/- The document's shelf: Room, Count, Set. -/
namespace Go.Proofs.YtbjmdnemeidpjaaGreat
set_option linter.unusedSimpArgs false
set_option linter.unusedVariables false
open Go.RowKit Go.Sort
set_option maxRecDepth 100000
set_option maxHeartbeats 8000000 in
theorem dRoom_sat (most : Int) (R : List Rw) (first last : Int) (s : ByteArray) (h1 : in64 first) (h2 : in64 last) (hmo : 1 ≤ most ∧ most ≤ 1024) (hlen : R.length ≤ 100000) :
    Sat Tryz.prog 23 [.ptr 0 0, iA first, iA last, .d (.v (.string s))] (dO most R) (bA (dRoom most R first last s)) (dO most R) := by
  have hm : (R.map outR).length = R.length := List.length_map _
  by_cases g1 : last < first
  · have e : dRoom most R first last s = false := by unfold dRoom; rw [if_pos g1]
    rw [e]
    refine sat_of_vc (T := tiOf Tryz.prog) (E := E0) Tryz.func23 rfl rfl hE0 hm0 rfl ?_
    conv => whnf
    iterate 3
      repeat' (first | exact True.intro | ((first | refine And.intro (fun _ => ?_) tf | refine And.intro ft (fun _ => ?_) | refine And.intro (by kernel_rfl) ?_ | refine And.intro (by decide) ?_ | refine And.intro (fun _ => ?_) (fun h => absurd h (by decide)) | refine And.intro (fun h => absurd h (by decide)) (fun _ => ?_) | fail); conv => whnf) | (refine And.intro (fun _ => ?_) (fun _ => ?_) <;> conv => whnf) | fail)
      all_goals try (refine Or.inl ?_; conv => whnf)
    all_goals try exact (bno (decide_eq_true (show first > last by omega)) ‹decide (first > last) = false›).elim
    all_goals refine ⟨[], ?_⟩
    repeat (any_goals (first | exact True.intro | exact rfl | with_reducible_and_instances rfl | exact (by kernel_rfl) | refine And.intro ?_ ?_))
    all_goals conv => whnf
  have w1 : IntKind.u64.wrap (IntKind.u64.wrap last - IntKind.u64.wrap first) = last - first := by
    unfold in64 at h1 h2
    rw [IntKind.wrap_u64, IntKind.wrap_u64, IntKind.wrap_u64]; omega
  have w2 : IntKind.u64.wrap most = most := by rw [IntKind.wrap_u64]; omega
  have hd : decide (IntKind.u64.wrap (IntKind.u64.wrap last - IntKind.u64.wrap first) ≥ IntKind.u64.wrap most) = decide (most ≤ last - first) := by rw [w1, w2]
  by_cases g2 : most ≤ last - first
  · have e : dRoom most R first last s = false := by unfold dRoom; rw [if_neg g1, if_pos g2]
    rw [e]
    refine sat_of_vc (T := tiOf Tryz.prog) (E := E0) Tryz.func23 rfl rfl hE0 hm0 rfl ?_
    conv => whnf
    iterate 3
      repeat' (first | exact True.intro | ((first | refine And.intro (fun _ => ?_) tf | refine And.intro ft (fun _ => ?_) | refine And.intro (by kernel_rfl) ?_ | refine And.intro (by decide) ?_ | refine And.intro (fun _ => ?_) (fun h => absurd h (by decide)) | refine And.intro (fun h => absurd h (by decide)) (fun _ => ?_) | fail); conv => whnf) | (refine And.intro (fun _ => ?_) (fun _ => ?_) <;> conv => whnf) | fail)
      all_goals try (refine Or.inl ?_; conv => whnf)
    all_goals try exact (bno (hd.trans (decide_eq_true g2)) ‹_›).elim
    all_goals refine ⟨[], ?_⟩
    repeat (any_goals (first | exact True.intro | exact rfl | with_reducible_and_instances rfl | exact (by kernel_rfl) | refine And.intro ?_ ?_))
    all_goals conv => whnf
  obtain ⟨n, hn⟩ : ∃ n : Nat, last - first = n := ⟨(last - first).toNat, by omega⟩
  have e : dRoom most R first last s = decide (((R.length + lackD R first s (n + 1) : Nat) : Int) ≤ most) := by
    unfold dRoom
    rw [if_neg g1, if_neg g2, hn]; rfl
  rw [e]
  refine sat_of_vc (T := tiOf Tryz.prog) (E := E0) Tryz.func23 rfl rfl hE0 hm0 rfl ?_
  conv => whnf
  iterate 3
    repeat' (first | exact True.intro | ((first | refine And.intro (fun _ => ?_) tf | refine And.intro ft (fun _ => ?_) | refine And.intro (by kernel_rfl) ?_ | refine And.intro (by decide) ?_ | refine And.intro (fun _ => ?_) (fun h => absurd h (by decide)) | refine And.intro (fun h => absurd h (by decide)) (fun _ => ?_) | fail); conv => whnf) | (refine And.intro (fun _ => ?_) (fun _ => ?_) <;> conv => whnf) | fail)
    all_goals try (refine Or.inl ?_; conv => whnf)
  all_goals try exact (bno ‹decide (first > last) = true› (decide_eq_false (show ¬ first > last by omega))).elim
  all_goals try exact (bno ‹_› (hd.trans (decide_eq_false g2))).elim
  refine ⟨Nat, fun i => i ≤ n, fun i => ([(9, iA (R.length + lackD R first s i : Nat)), (10, iA (first + (i : Int))), (0, .ptr 0 0), (1, iA first), (2, iA last), (3, .d (.v (.string s)))], dO most R), fun i => n + 1 - i, ⟨0, Nat.zero_le _, ?_⟩, ?_⟩
  · all_goals refine ⟨[], ?_⟩
    repeat (any_goals (first | exact True.intro | exact rfl | with_reducible_and_instances rfl | exact (by kernel_rfl) | refine And.intro ?_ ?_))
    all_goals conv => whnf
    · rw [hm]; rfl
    · rw [Int.natCast_zero, Int.add_zero]
  intro i hi
  replace hi : i ≤ n := hi
  have hsn := lackD_succ R first s i
  have hle := lackD_le R first s i
  have fs := dFind_sat most R (by omega) (first + (i : Int)) s
  have hfn := findD_neg R (first + (i : Int), s)
  rw [← hfn] at hsn
  conv => whnf
  iterate 5
    repeat' (first | exact True.intro | ((first | refine And.intro (fun _ => ?_) tf | refine And.intro ft (fun _ => ?_) | refine And.intro (by kernel_rfl) ?_ | refine And.intro (by decide) ?_ | refine And.intro (fun _ => ?_) (fun h => absurd h (by decide)) | refine And.intro (fun h => absurd h (by decide)) (fun _ => ?_) | refine ⟨_, _, fs.at2 0 1 rfl rfl rfl rfl rfl, ?_⟩ | fail); conv => whnf) | (refine And.intro (fun _ => ?_) (fun _ => ?_) <;> conv => whnf) | fail)
    all_goals try (refine Or.inl ?_; conv => whnf)
  · have hie : i = n := by have := beq_iff_eq.1 ‹(first + (i : Int) == last) = true›; omega
    subst hie
    rw [‹decide (findD R (first + (i : Int), s) < 0) = true›, if_pos rfl] at hsn
    all_goals refine ⟨[], ?_⟩
    repeat (any_goals (first | exact True.intro | exact rfl | with_reducible_and_instances rfl | exact (by kernel_rfl) | refine And.intro ?_ ?_))
    all_goals conv => whnf
    rw [hsn, wi (by omega) (by omega)]; rfl
  · have hie : i < n := by
      have h : (first + (i : Int) == last) = false := ‹_›
      simp at h; omega
    rw [‹decide (findD R (first + (i : Int), s) < 0) = true›, if_pos rfl] at hsn
    refine ⟨i + 1, hie, show n + 1 - (i + 1) < n + 1 - i by omega, ?_⟩
    all_goals refine ⟨[], ?_⟩
    repeat (any_goals (first | exact True.intro | exact rfl | with_reducible_and_instances rfl | exact (by kernel_rfl) | refine And.intro ?_ ?_))
    all_goals conv => whnf
    · show iA (IntKind.i64.wrap (((R.length + lackD R first s i : Nat) : Int) + 1)) = iA (R.length + lackD R first s (i + 1) : Nat)
      rw [hsn, wi (by omega) (by omega)]; rfl
    · show iA (IntKind.i64.wrap (first + (i : Int) + 1)) = iA (first + ((i + 1 : Nat) : Int))
      unfold in64 at h1 h2
      rw [wi (by omega) (by omega), Int.natCast_succ, Int.add_assoc]
  · have hie : i = n := by have := beq_iff_eq.1 ‹(first + (i : Int) == last) = true›; omega
    subst hie
    rw [‹decide (findD R (first + (i : Int), s) < 0) = false›, if_neg (by simp)] at hsn
    all_goals refine ⟨[], ?_⟩
    repeat (any_goals (first | exact True.intro | exact rfl | with_reducible_and_instances rfl | exact (by kernel_rfl) | refine And.intro ?_ ?_))
    all_goals conv => whnf
    rw [hsn, Nat.add_zero]
  · have hie : i < n := by
      have h : (first + (i : Int) == last) = false := ‹_›
      simp at h; omega
    rw [‹decide (findD R (first + (i : Int), s) < 0) = false›, if_neg (by simp)] at hsn
    refine ⟨i + 1, hie, show n + 1 - (i + 1) < n + 1 - i by omega, ?_⟩
    all_goals refine ⟨[], ?_⟩
    repeat (any_goals (first | exact True.intro | exact rfl | with_reducible_and_instances rfl | exact (by kernel_rfl) | refine And.intro ?_ ?_))
    all_goals conv => whnf
    · show iA (R.length + lackD R first s i : Nat) = iA (R.length + lackD R first s (i + 1) : Nat)
      rw [hsn, Nat.add_zero]
    · show iA (IntKind.i64.wrap (first + (i : Int) + 1)) = iA (first + ((i + 1 : Nat) : Int))
      unfold in64 at h1 h2
      rw [wi (by omega) (by omega), Int.natCast_succ, Int.add_assoc]
set_option maxHeartbeats 16000000 in
theorem dCount_sat (most : Int) (R : List Rw) (k : KeyW) (v : Int) (hR : RwI R) (hv : in64 v) (hlen : R.length ≤ 100000) : Sat Tryz.prog 25 [.ptr 0 0, iA k.1, .d (.v (.string k.2)), iA v] (dO most R) (iA (dCount R k v).2) (dO most (dCount R k v).1) := by
  have hm : (R.map outR).length = R.length := List.length_map _
  have fs := dFind_sat most R (by omega) k.1 k.2
  cases hf : lookD R k with
  | none =>
    have e : dCount R k v = (R, 19) := by unfold dCount; rw [hf]
    rw [e]
    rw [show ((k.1, k.2) : KeyW) = k from rfl, findD_none hf] at fs
    refine sat_of_vc (T := tiOf Tryz.prog) (E := E0) Tryz.func25 rfl rfl hE0 hm0 rfl ?_
    conv => whnf
    iterate 3
      repeat' (first | exact True.intro | ((first | refine And.intro (fun _ => ?_) tf | refine And.intro ft (fun _ => ?_) | refine And.intro (by kernel_rfl) ?_ | refine And.intro (by decide) ?_ | refine And.intro (fun _ => ?_) (fun h => absurd h (by decide)) | refine And.intro (fun h => absurd h (by decide)) (fun _ => ?_) | refine ⟨_, _, fs.at2 0 1 rfl rfl rfl rfl rfl, ?_⟩ | fail); conv => whnf) | (refine And.intro (fun _ => ?_) (fun _ => ?_) <;> conv => whnf) | fail)
      all_goals try (refine Or.inl ?_; conv => whnf)
    all_goals try (exfalso; simp only [decide_eq_true_eq, decide_eq_false_iff_not, Bool.not_eq_true', Bool.not_eq_false', Bool.not_eq_true, Bool.not_eq_false, beq_iff_eq, bne_iff_ne, beq_eq_false_iff_ne, bne_eq_false_iff_eq, ne_eq, Decidable.not_not] at *; first | omega | contradiction | (simp_all; done) | (simp_all; omega))
    all_goals refine ⟨[], ?_⟩
    repeat (any_goals (first | exact True.intro | exact rfl | with_reducible_and_instances rfl | exact (by kernel_rfl) | refine And.intro ?_ ?_))
    all_goals conv => whnf
  | some x =>
    obtain ⟨i, hi, hfd, hx⟩ := findD_some hf
    rw [show ((k.1, k.2) : KeyW) = k from rfl, hfd] at fs
    have hc := hR.ok _ (look_mem hf)
    have hc : CelOK x := hc
    have hl := hc.hl
    have hv1 : ∀ z ∈ [v], in64 z := fun z hz => by rw [List.mem_singleton.1 hz]; exact hv
    have f1 := refFold_sat [v] hv1 (by simp)
    have hf1 : CelOK (foldC [v]) := foldC_ok hv1 (by simp)
    have hl1 := hf1.hl
    have m1 := refMerge_sat_c [x, foldC [v]] (fun c hc' => by rcases List.mem_cons.1 hc' with q | q; rw [q]; exact hc; rw [List.mem_singleton.1 q]; exact hf1) (by simp)
    rw [addC_merge hc hv] at m1
    have la := (addC_okA (v := v) hc hv).hl
    have hil : i < (R.map outR).length := by omega
    have hg := map_get (f := outR) hx
    have e : dCount R k v = if (addC x v).2 = 0 then (setD R k (addC x v).1, 0) else (R, (addC x v).2) := by unfold dCount; rw [hf]
    have hset := fun c' => set_at hR.so (c' := c') hx
    rw [e]
    clear e fs
    have fs := dFind_sat most R (by omega) k.1 k.2
    rw [show ((k.1, k.2) : KeyW) = k from rfl, hfd] at fs
    generalize addC x v = A at *
    refine sat_of_vc (T := tiOf Tryz.prog) (E := E0) Tryz.func25 rfl rfl hE0 hm0 rfl ?_
    conv => whnf
    iterate 5
      repeat' (first | exact True.intro | ((first | refine ⟨i, rfl, hil, ?_⟩ | refine ⟨_, hg, ?_⟩ | refine ⟨_, out_cell sF hl, clen sF hl, ?_⟩ | refine ⟨_, _, hg, out_setc la hl, ?_⟩ | refine And.intro (out_lec la) ?_ | refine ⟨_, drop_id, ?_⟩ | refine ⟨_, _, at_n, ?_⟩ | refine ⟨_, _, at_hi, ?_⟩ | refine ⟨_, _, at_lo, ?_⟩ | refine ⟨_, _, at_mn, ?_⟩ | refine ⟨_, _, at_mx, ?_⟩ | refine ⟨_, _, at_ce, ?_⟩ | refine ⟨_, _, at_po, ?_⟩ | refine ⟨_, whole_z sC, clenz sC, ?_⟩ | refine ⟨_, setzC, ?_⟩ | refine And.intro (clenz sC) ?_ | refine And.intro fitzC ?_ | refine ⟨_, whole_cell sC hl, clen sC hl, ?_⟩ | refine And.intro (clen sC hl) ?_ | refine And.intro (fitC hl) ?_ | refine ⟨_, setC hl, ?_⟩ | refine ⟨_, whole_cell sC hl1, clen sC hl1, ?_⟩ | refine And.intro (clen sC hl1) ?_ | refine And.intro (fitC hl1) ?_ | refine ⟨_, setC hl1, ?_⟩ | refine ⟨_, whole_cell sC la, clen sC la, ?_⟩ | refine And.intro (clen sC la) ?_ | refine And.intro (fitC la) ?_ | refine ⟨_, setC la, ?_⟩ | refine ⟨_, whole_z sF, clenz sF, ?_⟩ | refine ⟨_, setzF, ?_⟩ | refine And.intro (clenz sF) ?_ | refine And.intro fitzF ?_ | refine ⟨_, whole_cell sF hl, clen sF hl, ?_⟩ | refine And.intro (clen sF hl) ?_ | refine And.intro (fitF hl) ?_ | refine ⟨_, setF hl, ?_⟩ | refine ⟨_, whole_cell sF hl1, clen sF hl1, ?_⟩ | refine And.intro (clen sF hl1) ?_ | refine And.intro (fitF hl1) ?_ | refine ⟨_, setF hl1, ?_⟩ | refine ⟨_, whole_cell sF la, clen sF la, ?_⟩ | refine And.intro (clen sF la) ?_ | refine And.intro (fitF la) ?_ | refine ⟨_, setF la, ?_⟩ | refine And.intro (fit1 hl (by decide)) ?_ | refine And.intro (fit1 hl1 (by decide)) ?_ | refine And.intro (fit1 la (by decide)) ?_ | refine And.intro (fit1 rfl (by decide)) ?_ | refine ⟨_, sum_cell s25, rfl, ?_⟩ | refine ⟨_, set_n _, ?_⟩ | refine ⟨_, set_mn _, ?_⟩ | refine ⟨_, set_mx _, ?_⟩ | refine ⟨_, set_ce _, ?_⟩ | refine ⟨_, set_po _, ?_⟩ | refine ⟨_, set_s _, ?_⟩ | refine ⟨_, set_hi _, ?_⟩ | refine ⟨_, set_lo _, ?_⟩ | refine And.intro (fun _ => ?_) tf | refine And.intro ft (fun _ => ?_) | refine And.intro (by kernel_rfl) ?_ | refine And.intro (by decide) ?_ | refine And.intro (fun _ => ?_) (fun h => absurd h (by decide)) | refine And.intro (fun h => absurd h (by decide)) (fun _ => ?_) | refine ⟨_, _, fs.at2 0 1 rfl rfl rfl rfl rfl, ?_⟩ | refine ⟨_, _, lendO f1 rfl (flat_cA _), ?_⟩ | refine ⟨_, _, lendO m1 rfl (flat_cE _ _), ?_⟩ | fail); conv => whnf) | (refine And.intro (fun _ => ?_) (fun _ => ?_) <;> conv => whnf) | fail)
      all_goals try (refine Or.inl ?_; conv => whnf)
    · have h0 : A.2 = 0 := beq_iff_eq.1 ‹(A.2 == 0) = true›
      rw [if_pos h0]
      all_goals refine ⟨[], ?_⟩
      repeat (any_goals (first | exact True.intro | exact rfl | with_reducible_and_instances rfl | exact (by kernel_rfl) | refine And.intro ?_ ?_))
      all_goals conv => whnf
      · rw [h0]
      · rw [← List.map_set, hset]
    · have h0 : ¬ A.2 = 0 := fun h => by have q : (A.2 == 0) = false := ‹_›; rw [h] at q; simp at q
      rw [if_neg h0]
      all_goals refine ⟨[], ?_⟩
      repeat (any_goals (first | exact True.intro | exact rfl | with_reducible_and_instances rfl | exact (by kernel_rfl) | refine And.intro ?_ ?_))
      all_goals conv => whnf
set_option maxHeartbeats 16000000 in
theorem dSet_err (most : Int) (R : List Rw) (x : Rw) (hR : RwI R) (hx : CelOK x.2) (hlen : R.length ≤ 100000) (he : (dSet most R x).2 ≠ 0) : Sat Tryz.prog 28 [.ptr 0 0, .d (.agg (outR x))] (dO most R) (iA (dSet most R x).2) (dO most R) := by
  have hm : (R.map outR).length = R.length := List.length_map _
  have hl := hx.hl
  have r1 := refRight_sat_c x.2 hx
  have fs := dFind_sat most R (by omega) x.1.1 x.1.2
  cases hf : lookD R x.1 with
  | some c =>
    obtain ⟨i, hi, hfd, _⟩ := findD_some hf
    rw [show ((x.1.1, x.1.2) : KeyW) = x.1 from rfl, hfd] at fs
    have e : (dSet most R x).2 = 18 := by unfold dSet; rw [hf]; rfl
    rw [e]
    refine sat_of_vc (T := tiOf Tryz.prog) (E := E0) Tryz.func28 rfl rfl hE0 hm0 rfl ?_
    conv => whnf
    iterate 4
      repeat' (first | exact True.intro | ((first | refine ⟨_, _, at_w, ?_⟩ | refine ⟨_, _, at_s, ?_⟩ | refine ⟨_, drop_id, ?_⟩ | refine ⟨_, out_take s113 hl, out_lens s113 hl, ?_⟩ | refine ⟨_, out_take0 s113 hl, out_lens s113 hl, ?_⟩ | refine And.intro (out_lens s113 hl) ?_ | refine ⟨_, out_take sRw hl, out_lens sRw hl, ?_⟩ | refine ⟨_, out_take0 sRw hl, out_lens sRw hl, ?_⟩ | refine And.intro (out_lens sRw hl) ?_ | refine And.intro (out_le hl) ?_ | refine And.intro (out_fit hl) ?_ | refine And.intro (rw_fit hl) ?_ | refine ⟨_, out_set hl, ?_⟩ | refine ⟨_, rw_set hl, ?_⟩ | refine ⟨_, out_key s62 (x := _), rfl, ?_⟩ | refine ⟨_, out_cell sC hl, clen sC hl, ?_⟩ | refine ⟨_, out_cell sF hl, clen sF hl, ?_⟩ | refine And.intro (out_fits hl hl) ?_ | refine ⟨_, out_sets hl hl, ?_⟩ | refine And.intro (out_fitc hl hl) ?_ | refine ⟨_, out_setc hl hl, ?_⟩ | refine And.intro (fun _ => ?_) tf | refine And.intro ft (fun _ => ?_) | refine And.intro (by kernel_rfl) ?_ | refine And.intro (by decide) ?_ | refine And.intro (fun _ => ?_) (fun h => absurd h (by decide)) | refine And.intro (fun h => absurd h (by decide)) (fun _ => ?_) | refine ⟨_, _, fs.at2 0 1 rfl rfl rfl rfl rfl, ?_⟩ | fail); conv => whnf) | (refine And.intro (fun _ => ?_) (fun _ => ?_) <;> conv => whnf) | fail)
      all_goals try (refine Or.inl ?_; conv => whnf)
    all_goals try (exfalso; simp only [decide_eq_true_eq, decide_eq_false_iff_not, Bool.not_eq_true', Bool.not_eq_false', Bool.not_eq_true, Bool.not_eq_false, beq_iff_eq, bne_iff_ne, beq_eq_false_iff_ne, bne_eq_false_iff_eq, ne_eq, Decidable.not_not] at *; first | omega | contradiction | (simp_all; done) | (simp_all; omega))
    all_goals refine ⟨[], ?_⟩
    repeat (any_goals (first | exact True.intro | exact rfl | with_reducible_and_instances rfl | exact (by kernel_rfl) | refine And.intro ?_ ?_))
    all_goals conv => whnf
  | none =>
    rw [show ((x.1.1, x.1.2) : KeyW) = x.1 from rfl, findD_none hf] at fs
    by_cases hr : rightC x.2 = true
    case neg =>
      have hr : rightC x.2 = false := by simpa using hr
      have e : (dSet most R x).2 = 10 := by unfold dSet; rw [hf, hr]; rfl
      rw [e]
      rw [hr] at r1
      refine sat_of_vc (T := tiOf Tryz.prog) (E := E0) Tryz.func28 rfl rfl hE0 hm0 rfl ?_
      conv => whnf
      iterate 5
        repeat' (first | exact True.intro | ((first | refine ⟨_, _, at_w, ?_⟩ | refine ⟨_, _, at_s, ?_⟩ | refine ⟨_, drop_id, ?_⟩ | refine ⟨_, out_take s113 hl, out_lens s113 hl, ?_⟩ | refine ⟨_, out_take0 s113 hl, out_lens s113 hl, ?_⟩ | refine And.intro (out_lens s113 hl) ?_ | refine ⟨_, out_take sRw hl, out_lens sRw hl, ?_⟩ | refine ⟨_, out_take0 sRw hl, out_lens sRw hl, ?_⟩ | refine And.intro (out_lens sRw hl) ?_ | refine And.intro (out_le hl) ?_ | refine And.intro (out_fit hl) ?_ | refine And.intro (rw_fit hl) ?_ | refine ⟨_, out_set hl, ?_⟩ | refine ⟨_, rw_set hl, ?_⟩ | refine ⟨_, out_key s62 (x := _), rfl, ?_⟩ | refine ⟨_, out_cell sC hl, clen sC hl, ?_⟩ | refine ⟨_, out_cell sF hl, clen sF hl, ?_⟩ | refine And.intro (out_fits hl hl) ?_ | refine ⟨_, out_sets hl hl, ?_⟩ | refine And.intro (out_fitc hl hl) ?_ | refine ⟨_, out_setc hl hl, ?_⟩ | refine And.intro (fun _ => ?_) tf | refine And.intro ft (fun _ => ?_) | refine And.intro (by kernel_rfl) ?_ | refine And.intro (by decide) ?_ | refine And.intro (fun _ => ?_) (fun h => absurd h (by decide)) | refine And.intro (fun h => absurd h (by decide)) (fun _ => ?_) | refine ⟨_, _, fs.at2 0 1 rfl rfl rfl rfl rfl, ?_⟩ | refine ⟨_, _, r1.pu rfl rfl, ?_⟩ | fail); conv => whnf) | (refine And.intro (fun _ => ?_) (fun _ => ?_) <;> conv => whnf) | fail)
        all_goals try (refine Or.inl ?_; conv => whnf)
      all_goals refine ⟨[], ?_⟩
      repeat (any_goals (first | exact True.intro | exact rfl | with_reducible_and_instances rfl | exact (by kernel_rfl) | refine And.intro ?_ ?_))
      all_goals conv => whnf
    rw [hr] at r1
    have hn : most ≤ R.length := Decidable.byContradiction fun hn => he (by unfold dSet; rw [hf, hr]; simp [hn])
    have e : (dSet most R x).2 = 20 := by unfold dSet; rw [hf, hr]; simp [hn]
    rw [e]
    refine sat_of_vc (T := tiOf Tryz.prog) (E := E0) Tryz.func28 rfl rfl hE0 hm0 rfl ?_
    conv => whnf
    iterate 5
      repeat' (first | exact True.intro | ((first | refine ⟨_, _, at_w, ?_⟩ | refine ⟨_, _, at_s, ?_⟩ | refine ⟨_, drop_id, ?_⟩ | refine ⟨_, out_take s113 hl, out_lens s113 hl, ?_⟩ | refine ⟨_, out_take0 s113 hl, out_lens s113 hl, ?_⟩ | refine And.intro (out_lens s113 hl) ?_ | refine ⟨_, out_take sRw hl, out_lens sRw hl, ?_⟩ | refine ⟨_, out_take0 sRw hl, out_lens sRw hl, ?_⟩ | refine And.intro (out_lens sRw hl) ?_ | refine And.intro (out_le hl) ?_ | refine And.intro (out_fit hl) ?_ | refine And.intro (rw_fit hl) ?_ | refine ⟨_, out_set hl, ?_⟩ | refine ⟨_, rw_set hl, ?_⟩ | refine ⟨_, out_key s62 (x := _), rfl, ?_⟩ | refine ⟨_, out_cell sC hl, clen sC hl, ?_⟩ | refine ⟨_, out_cell sF hl, clen sF hl, ?_⟩ | refine And.intro (out_fits hl hl) ?_ | refine ⟨_, out_sets hl hl, ?_⟩ | refine And.intro (out_fitc hl hl) ?_ | refine ⟨_, out_setc hl hl, ?_⟩ | refine And.intro (fun _ => ?_) tf | refine And.intro ft (fun _ => ?_) | refine And.intro (by kernel_rfl) ?_ | refine And.intro (by decide) ?_ | refine And.intro (fun _ => ?_) (fun h => absurd h (by decide)) | refine And.intro (fun h => absurd h (by decide)) (fun _ => ?_) | refine ⟨_, _, fs.at2 0 1 rfl rfl rfl rfl rfl, ?_⟩ | refine ⟨_, _, r1.pu rfl rfl, ?_⟩ | fail); conv => whnf) | (refine And.intro (fun _ => ?_) (fun _ => ?_) <;> conv => whnf) | fail)
      all_goals try (refine Or.inl ?_; conv => whnf)
    all_goals try exact (bno (decide_eq_true (show (((R.map outR).length : Nat) : Int) ≥ most by rw [hm]; omega)) ‹decide (((R.map outR).length : Int) ≥ most) = false›).elim
    all_goals refine ⟨[], ?_⟩
    repeat (any_goals (first | exact True.intro | exact rfl | with_reducible_and_instances rfl | exact (by kernel_rfl) | refine And.intro ?_ ?_))
    all_goals conv => whnf
set_option maxHeartbeats 16000000 in
theorem dSet_ok (most : Int) (R : List Rw) (x : Rw) (hR : RwI R) (hx : CelOK x.2) (hlen : R.length ≤ 100000) (he : (dSet most R x).2 = 0) : Sat Tryz.prog 28 [.ptr 0 0, .d (.agg (outR x))] (dO most R) (iA 0) [.cells [iA most, .own 2], .dead, .sl 74 ((dSet most R x).1.map outR)] := by
  have hm : (R.map outR).length = R.length := List.length_map _
  have hl := hx.hl
  have r1 := refRight_sat_c x.2 hx
  have fs := dFind_sat most R (by omega) x.1.1 x.1.2
  have pu := dPut_sat most R x (by omega) hR.so hl hR.hl
  cases hf : lookD R x.1 with
  | some c => unfold dSet at he; rw [hf] at he; simp at he
  | none =>
    rw [show ((x.1.1, x.1.2) : KeyW) = x.1 from rfl, findD_none hf] at fs
    have hr : rightC x.2 = true := by
      cases hr : rightC x.2 with
      | true => rfl
      | false => unfold dSet at he; rw [hf, hr] at he; simp at he
    have hn : ¬ most ≤ R.length := fun hn => by unfold dSet at he; rw [hf, hr] at he; simp [hn] at he
    have e : (dSet most R x).1 = insD R x := by unfold dSet; rw [hf, hr]; simp [hn]
    rw [e]
    rw [hr] at r1
    refine sat_of_vc (T := tiOf Tryz.prog) (E := E0) Tryz.func28 rfl rfl hE0 hm0 rfl ?_
    conv => whnf
    iterate 6
      repeat' (first | exact True.intro | ((first | refine ⟨_, _, at_w, ?_⟩ | refine ⟨_, _, at_s, ?_⟩ | refine ⟨_, drop_id, ?_⟩ | refine ⟨_, out_take s113 hl, out_lens s113 hl, ?_⟩ | refine ⟨_, out_take0 s113 hl, out_lens s113 hl, ?_⟩ | refine And.intro (out_lens s113 hl) ?_ | refine ⟨_, out_take sRw hl, out_lens sRw hl, ?_⟩ | refine ⟨_, out_take0 sRw hl, out_lens sRw hl, ?_⟩ | refine And.intro (out_lens sRw hl) ?_ | refine And.intro (out_le hl) ?_ | refine And.intro (out_fit hl) ?_ | refine And.intro (rw_fit hl) ?_ | refine ⟨_, out_set hl, ?_⟩ | refine ⟨_, rw_set hl, ?_⟩ | refine ⟨_, out_key s62 (x := _), rfl, ?_⟩ | refine ⟨_, out_cell sC hl, clen sC hl, ?_⟩ | refine ⟨_, out_cell sF hl, clen sF hl, ?_⟩ | refine And.intro (out_fits hl hl) ?_ | refine ⟨_, out_sets hl hl, ?_⟩ | refine And.intro (out_fitc hl hl) ?_ | refine ⟨_, out_setc hl hl, ?_⟩ | refine And.intro (fun _ => ?_) tf | refine And.intro ft (fun _ => ?_) | refine And.intro (by kernel_rfl) ?_ | refine And.intro (by decide) ?_ | refine And.intro (fun _ => ?_) (fun h => absurd h (by decide)) | refine And.intro (fun h => absurd h (by decide)) (fun _ => ?_) | refine ⟨_, _, fs.at2 0 1 rfl rfl rfl rfl rfl, ?_⟩ | refine ⟨_, _, r1.pu rfl rfl, ?_⟩ | refine ⟨_, _, pu.at2 0 1 rfl rfl rfl rfl rfl, ?_⟩ | fail); conv => whnf) | (refine And.intro (fun _ => ?_) (fun _ => ?_) <;> conv => whnf) | fail)
      all_goals try (refine Or.inl ?_; conv => whnf)
    all_goals try exact (bno ‹decide (((R.map outR).length : Int) ≥ most) = true› (decide_eq_false (show ¬ (((R.map outR).length : Nat) : Int) ≥ most by rw [hm]; omega))).elim
    all_goals refine ⟨[(2, 3)], ?_⟩
    repeat (any_goals (first | exact True.intro | exact rfl | with_reducible_and_instances rfl | exact (by kernel_rfl) | refine And.intro ?_ ?_))
    all_goals conv => whnf
/-! ### Close -/
theorem tw_in {α : Type} {p : α → Bool} {l : List α} {i : Nat} {x : α} (hi : i < (l.takeWhile p).length) (hx : l[i]? = some x) : p x = true := by
  have h1 : (l.takeWhile p)[i]? = some x := by rw [← (take_while p l).1, List.getElem?_take_of_lt hi]; exact hx
  exact List.all_eq_true.1 (List.all_takeWhile (p := p) (l := l)) _ (List.mem_of_getElem? h1)
theorem tw_end {α : Type} {p : α → Bool} {l : List α} {x : α} (hx : l[(l.takeWhile p).length]? = some x) : p x = false := by
  have h1 : (l.dropWhile p)[0]? = some x := by rw [← (take_while p l).2, List.getElem?_drop]; exact hx
  have := List.head?_dropWhile_not p l
  rw [List.head?_eq_getElem?, h1] at this
  simpa using this
set_option maxHeartbeats 16000000 in
theorem dClose_sat (most : Int) (R : List Rw) (b : Int) (hlen : R.length ≤ 100000) : Sat Tryz.prog 27 [.ptr 0 0, iA b] (dO most R) (.own 2) [.cells [iA most, .own 3], .dead, .sl 74 ((R.take (cutW R b)).map outR), .sl 74 ((R.drop (cutW R b)).map outR)] := by
  have hm : (R.map outR).length = R.length := List.length_map _
  have hcl : cutW R b ≤ R.length := cut_le _ R
  have hin := fun (i : Nat) (x : Rw) (hi : i < cutW R b) (hx : R[i]? = some x) => tw_in (p := fun y : Rw => decide (y.1.1 < b)) hi hx
  have hen := fun (x : Rw) (hx : R[cutW R b]? = some x) => tw_end (p := fun y : Rw => decide (y.1.1 < b)) hx
  obtain ⟨K, hK⟩ : ∃ K, cutW R b = K := ⟨_, rfl⟩
  rw [hK] at hcl hin hen ⊢
  refine sat_of_vc (T := tiOf Tryz.prog) (E := E0) Tryz.func27 rfl rfl hE0 hm0 rfl ?_
  conv => whnf
  iterate 2
    repeat' (first | exact True.intro | ((first | refine And.intro (fun _ => ?_) tf | refine And.intro ft (fun _ => ?_) | refine And.intro (by kernel_rfl) ?_ | refine And.intro (by decide) ?_ | refine And.intro (fun _ => ?_) (fun h => absurd h (by decide)) | refine And.intro (fun h => absurd h (by decide)) (fun _ => ?_) | fail); conv => whnf) | (refine And.intro (fun _ => ?_) (fun _ => ?_) <;> conv => whnf) | fail)
    all_goals try (refine Or.inl ?_; conv => whnf)
  refine ⟨Nat, fun i => i ≤ K, fun i => ([(5, iA i), (0, .ptr 0 0), (1, iA b)], [.cells [iA most, .d (.sl 74 (R.map outR))], .dead]), fun i => K + 1 - i, ⟨0, Nat.zero_le _, ?_⟩, ?_⟩
  · all_goals refine ⟨[], ?_⟩
    repeat (any_goals (first | exact True.intro | exact rfl | with_reducible_and_instances rfl | exact (by kernel_rfl) | refine And.intro ?_ ?_))
    all_goals conv => whnf
  intro i hi
  replace hi : i ≤ K := hi
  conv => whnf
  by_cases hlt : i < K
  · have hx : R[i]? = some R[i] := List.getElem?_eq_getElem (by omega)
    generalize R[i]'(by omega) = x at hx
    have hp := hin i x hlt hx
    have hg := map_get (f := outR) hx
    iterate 2
      repeat' (first | exact True.intro | ((first | refine ⟨i, _, rfl, hg, ?_⟩ | refine ⟨_, _, at_w, ?_⟩ | refine And.intro (fun _ => ?_) tf | refine And.intro ft (fun _ => ?_) | refine And.intro (by kernel_rfl) ?_ | refine And.intro (by decide) ?_ | refine And.intro (fun _ => ?_) (fun h => absurd h (by decide)) | refine And.intro (fun h => absurd h (by decide)) (fun _ => ?_) | fail); conv => whnf) | (refine And.intro (fun _ => ?_) (fun _ => ?_) <;> conv => whnf) | fail)
      all_goals try (refine Or.inl ?_; conv => whnf)
    all_goals try exact (bno (decide_eq_true (show (i : Int) < ((R.map outR).length : Nat) by rw [hm]; omega)) ‹decide ((i : Int) < ((R.map outR).length : Nat)) = false›).elim
    all_goals try exact (bno hp ‹decide (x.1.1 < b) = false›).elim
    refine ⟨i + 1, hlt, show K + 1 - (i + 1) < K + 1 - i by omega, ?_⟩
    all_goals refine ⟨[], ?_⟩
    repeat (any_goals (first | exact True.intro | exact rfl | with_reducible_and_instances rfl | exact (by kernel_rfl) | refine And.intro ?_ ?_))
    all_goals conv => whnf
    exact wk1 (by omega)
  have hiK : i = K := by omega
  subst hiK
  have hil : i ≤ (R.map outR).length := by omega
  have htl : ((R.map outR).take i).length * 600 ≤ 140737488355328 := by rw [List.length_take]; omega
  have hdl : ((R.map outR).drop i).length * 600 ≤ 140737488355328 := by rw [List.length_drop]; omega
  by_cases hend : i = R.length
  · have h0 : decide ((i : Int) < ((R.map outR).length : Nat)) = false := decide_eq_false (by rw [hm]; omega)
    iterate 2
      repeat' (first | exact True.intro | ((first | refine And.intro (fun _ => ?_) tf | refine And.intro ft (fun _ => ?_) | refine And.intro (by kernel_rfl) ?_ | refine And.intro (by decide) ?_ | refine And.intro (fun _ => ?_) (fun h => absurd h (by decide)) | refine And.intro (fun h => absurd h (by decide)) (fun _ => ?_) | fail); conv => whnf) | (refine And.intro (fun _ => ?_) (fun _ => ?_) <;> conv => whnf) | fail)
      all_goals try (refine Or.inl ?_; conv => whnf)
    · exact (bno ‹decide ((i : Int) < ((R.map outR).length : Nat)) = true› h0).elim
    iterate 4
      repeat' (first | exact True.intro | ((first | refine And.intro (fun _ => ?_) tf | refine And.intro ft (fun _ => ?_) | refine And.intro (by kernel_rfl) ?_ | refine And.intro (by decide) ?_ | refine And.intro (fun _ => ?_) (fun h => absurd h (by decide)) | refine And.intro (fun h => absurd h (by decide)) (fun _ => ?_) | refine ⟨_, _, upto_d 74 600 (by kernel_rfl) hil, ?_⟩ | refine ⟨_, _, from_d 74 600 (by kernel_rfl) hil, ?_⟩ | refine ⟨_, _, apd 74 600 (by kernel_rfl) rfl (by simp at htl hdl ⊢; omega), ?_⟩ | fail); conv => whnf) | (refine And.intro (fun _ => ?_) (fun _ => ?_) <;> conv => whnf) | fail)
      all_goals try (refine Or.inl ?_; conv => whnf)
    all_goals refine ⟨[(2, 3), (3, 5)], ?_⟩
    repeat (any_goals (first | exact True.intro | exact rfl | with_reducible_and_instances rfl | exact (by kernel_rfl) | refine And.intro ?_ ?_))
    all_goals conv => whnf
    · rw [List.map_take]; rfl
    · rw [List.map_drop]; rfl
  · have hx : R[i]? = some R[i] := List.getElem?_eq_getElem (by omega)
    generalize R[i]'(by omega) = x at hx
    have hp := hen x hx
    have hg := map_get (f := outR) hx
    iterate 2
      repeat' (first | exact True.intro | ((first | refine ⟨i, _, rfl, hg, ?_⟩ | refine ⟨_, _, at_w, ?_⟩ | refine And.intro (fun _ => ?_) tf | refine And.intro ft (fun _ => ?_) | refine And.intro (by kernel_rfl) ?_ | refine And.intro (by decide) ?_ | refine And.intro (fun _ => ?_) (fun h => absurd h (by decide)) | refine And.intro (fun h => absurd h (by decide)) (fun _ => ?_) | fail); conv => whnf) | (refine And.intro (fun _ => ?_) (fun _ => ?_) <;> conv => whnf) | fail)
      all_goals try (refine Or.inl ?_; conv => whnf)
    all_goals try exact (bno (decide_eq_true (show (i : Int) < ((R.map outR).length : Nat) by rw [hm]; omega)) ‹decide ((i : Int) < ((R.map outR).length : Nat)) = false›).elim
    all_goals try exact (bno ‹decide (x.1.1 < b) = true› hp).elim
    iterate 4
      repeat' (first | exact True.intro | ((first | refine And.intro (fun _ => ?_) tf | refine And.intro ft (fun _ => ?_) | refine And.intro (by kernel_rfl) ?_ | refine And.intro (by decide) ?_ | refine And.intro (fun _ => ?_) (fun h => absurd h (by decide)) | refine And.intro (fun h => absurd h (by decide)) (fun _ => ?_) | refine ⟨_, _, upto_d 74 600 (by kernel_rfl) hil, ?_⟩ | refine ⟨_, _, from_d 74 600 (by kernel_rfl) hil, ?_⟩ | refine ⟨_, _, apd 74 600 (by kernel_rfl) rfl (by simp at htl hdl ⊢; omega), ?_⟩ | fail); conv => whnf) | (refine And.intro (fun _ => ?_) (fun _ => ?_) <;> conv => whnf) | fail)
      all_goals try (refine Or.inl ?_; conv => whnf)
    all_goals refine ⟨[(2, 3), (3, 5)], ?_⟩
    repeat (any_goals (first | exact True.intro | exact rfl | with_reducible_and_instances rfl | exact (by kernel_rfl) | refine And.intro ?_ ?_))
    all_goals conv => whnf
    · rw [List.map_take]; rfl
    · rw [List.map_drop]; rfl
end Go.Proofs.YtbjmdnemeidpjaaGreat
/- The document's shelf: Note. -/
namespace Go.Proofs.YtbjmdnemeidpjaaGreat
set_option linter.unusedSimpArgs false
set_option linter.unusedVariables false
open Go.RowKit Go.Sort
set_option maxRecDepth 100000
/-- The rows once a key's row is there. -/
def thereD (T : List Rw) (k : KeyW) : List Rw := if (lookD T k).isSome then T else insD T (k, zC)
theorem there_I {T : List Rw} (h : RwI T) (k : KeyW) : RwI (thereD T k) := by
  unfold thereD
  split
  · exact h
  · rename_i g
    have g : lookD T k = none := by simpa using g
    have := h.put k zC_ok (right_iff.1 rightC_zC)
    unfold putD at this
    rw [g] at this
    exact this
theorem there_look (T : List Rw) (k : KeyW) : lookD (thereD T k) k = some (cellD T k) := by
  unfold thereD cellD
  cases g : lookD T k with
  | none => simp only [Option.isSome_none, Bool.false_eq_true, if_false]; rw [look_ins (x := (k, zC)) g, if_pos rfl]; rfl
  | some c => simp only [Option.isSome_some, if_true, Option.getD_some]; exact g
theorem there_set (T : List Rw) (k : KeyW) (c : Cel) : setD (thereD T k) k c = putD T k c := by
  unfold thereD putD
  cases g : lookD T k with
  | none => simp only [Option.isSome_none, Bool.false_eq_true, if_false]; exact set_ins g zC c
  | some x => simp only [Option.isSome_some, if_true]
theorem there_len (T : List Rw) (k : KeyW) : (thereD T k).length ≤ T.length + 1 := by
  unfold thereD
  split
  · omega
  · rw [ins_len]; omega
theorem dNote_bad (most : Int) (R : List Rw) (first last : Int) (s : ByteArray) (h1 : in64 first) (h2 : in64 last) (hmo : 1 ≤ most ∧ most ≤ 1024) (hlen : R.length ≤ 50000) (hb : last < first ∨ dRoom most R first last s = false) :
    Sat Tryz.prog 24 [.ptr 0 0, iA first, iA last, .d (.v (.string s))] (dO most R) (iA (dNote most R first last s).2) (dO most R) := by
  by_cases g1 : last < first
  · have e : dNote most R first last s = (R, 10) := by unfold dNote; rw [if_pos g1]
    rw [e]
    refine sat_of_vc (T := tiOf Tryz.prog) (E := E0) Tryz.func24 rfl rfl hE0 hm0 rfl ?_
    conv => whnf
    iterate 3
      repeat' (first | exact True.intro | ((first | refine And.intro (fun _ => ?_) tf | refine And.intro ft (fun _ => ?_) | refine And.intro (by kernel_rfl) ?_ | refine And.intro (by decide) ?_ | refine And.intro (fun _ => ?_) (fun h => absurd h (by decide)) | refine And.intro (fun h => absurd h (by decide)) (fun _ => ?_) | fail); conv => whnf) | (refine And.intro (fun _ => ?_) (fun _ => ?_) <;> conv => whnf) | fail)
      all_goals try (refine Or.inl ?_; conv => whnf)
    all_goals try exact (bno (decide_eq_true (show first > last by omega)) ‹decide (first > last) = false›).elim
    all_goals refine ⟨[], ?_⟩
    repeat (any_goals (first | exact True.intro | exact rfl | with_reducible_and_instances rfl | exact (by kernel_rfl) | refine And.intro ?_ ?_))
    all_goals conv => whnf
  · have g2 : dRoom most R first last s = false := hb.elim (fun h => absurd h g1) id
    have r1 := dRoom_sat most R first last s h1 h2 hmo (by omega)
    rw [g2] at r1
    have e : dNote most R first last s = (R, 20) := by unfold dNote; rw [if_neg g1, if_pos g2]
    rw [e]
    refine sat_of_vc (T := tiOf Tryz.prog) (E := E0) Tryz.func24 rfl rfl hE0 hm0 rfl ?_
    conv => whnf
    iterate 3
      repeat' (first | exact True.intro | ((first | refine And.intro (fun _ => ?_) tf | refine And.intro ft (fun _ => ?_) | refine And.intro (by kernel_rfl) ?_ | refine And.intro (by decide) ?_ | refine And.intro (fun _ => ?_) (fun h => absurd h (by decide)) | refine And.intro (fun h => absurd h (by decide)) (fun _ => ?_) | refine ⟨_, _, r1.at2 0 1 rfl rfl rfl rfl rfl, ?_⟩ | fail); conv => whnf) | (refine And.intro (fun _ => ?_) (fun _ => ?_) <;> conv => whnf) | fail)
      all_goals try (refine Or.inl ?_; conv => whnf)
    all_goals try exact (bno ‹decide (first > last) = true› (decide_eq_false (show ¬ first > last by omega))).elim
    all_goals refine ⟨[], ?_⟩
    repeat (any_goals (first | exact True.intro | exact rfl | with_reducible_and_instances rfl | exact (by kernel_rfl) | refine And.intro ?_ ?_))
    all_goals conv => whnf
set_option maxHeartbeats 32000000 in
theorem dNote_ok (most : Int) (R : List Rw) (first last : Int) (s : ByteArray) (hR : RwI R) (h1 : in64 first) (h2 : in64 last) (hmo : 1 ≤ most ∧ most ≤ 1024) (hlen : R.length ≤ 50000) (he : (dNote most R first last s).2 = 0) :
    Sat Tryz.prog 24 [.ptr 0 0, iA first, iA last, .d (.v (.string s))] (dO most R) (iA 0) [.cells [iA most, .own 2], .dead, .sl 74 ((dNote most R first last s).1.map outR)] := by
  have hm : (R.map outR).length = R.length := List.length_map _
  have r1 := dRoom_sat most R first last s h1 h2 hmo (by omega)
  have g1 : ¬ last < first := fun g => by unfold dNote at he; rw [if_pos g] at he; simp at he
  have g2 : dRoom most R first last s = true := by
    cases g : dRoom most R first last s with
    | true => rfl
    | false => unfold dNote at he; rw [if_neg g1, g] at he; simp at he
  have g3 : last - first < most := by
    have g2 := g2
    unfold dRoom at g2
    rw [if_neg g1] at g2
    by_cases q : most ≤ last - first
    · rw [if_pos q] at g2; exact Bool.noConfusion g2
    · omega
  obtain ⟨n, hn⟩ : ∃ n : Nat, last - first = n := ⟨(last - first).toNat, by omega⟩
  have hb0 : (first == last) = decide (first = last) := bneB _ _
  obtain ⟨b, hb⟩ : ∃ b, decide (first = last) = b := ⟨_, rfl⟩
  rw [hb] at hb0
  have e : dNote most R first last s = if notD R first s b (n + 1) then (midN R first s b (n + 1), 0) else (R, 12) := by
    unfold dNote
    rw [if_neg g1, if_neg (by rw [g2]; simp), hn, hb]; rfl
  have hok : notD R first s b (n + 1) = true := by
    cases g : notD R first s b (n + 1) with
    | true => rfl
    | false => rw [e, g] at he; simp at he
  rw [hok, if_pos rfl] at e
  rw [e]
  rw [g2] at r1
  have cp := dCopy_sat most R (by omega)
  refine sat_of_vc (T := tiOf Tryz.prog) (E := E0) Tryz.func24 rfl rfl hE0 hm0 rfl ?_
  conv => whnf
  iterate 4
    repeat' (first | exact True.intro | ((first | refine And.intro (fun _ => ?_) tf | refine And.intro ft (fun _ => ?_) | refine And.intro (by kernel_rfl) ?_ | refine And.intro (by decide) ?_ | refine And.intro (fun _ => ?_) (fun h => absurd h (by decide)) | refine And.intro (fun h => absurd h (by decide)) (fun _ => ?_) | refine ⟨_, _, r1.at2 0 1 rfl rfl rfl rfl rfl, ?_⟩ | refine ⟨_, _, cp.at2 0 1 rfl rfl rfl rfl rfl, ?_⟩ | fail); conv => whnf) | (refine And.intro (fun _ => ?_) (fun _ => ?_) <;> conv => whnf) | fail)
    all_goals try (refine Or.inl ?_; conv => whnf)
  all_goals try exact (bno ‹decide (first > last) = true› (decide_eq_false (show ¬ first > last by omega))).elim
  all_goals try (exfalso; simp only [decide_eq_true_eq, decide_eq_false_iff_not, Bool.not_eq_true', Bool.not_eq_false', Bool.not_eq_true, Bool.not_eq_false, beq_iff_eq, bne_iff_ne, beq_eq_false_iff_ne, bne_eq_false_iff_eq, ne_eq, Decidable.not_not] at *; first | omega | contradiction | (simp_all; done) | (simp_all; omega))
  refine ⟨Nat, fun i => i ≤ n, fun i => ([(10, iA (first + (i : Int))), (9, .ptr 2 0), (0, .ptr 0 0), (1, iA first), (2, iA last), (3, .d (.v (.string s)))], [.cells [iA most, .own 1], .sl 74 (R.map outR), .cells [iA most, .own 3], .sl 74 ((midN R first s b i).map outR)]), fun i => n + 1 - i, ⟨0, Nat.zero_le _, ?_⟩, ?_⟩
  · all_goals refine ⟨[(2, 4)], ?_⟩
    repeat (any_goals (first | exact True.intro | exact rfl | with_reducible_and_instances rfl | exact (by kernel_rfl) | refine And.intro ?_ ?_))
    all_goals conv => whnf
    rw [Int.natCast_zero, Int.add_zero]
  intro i hi
  replace hi : i ≤ n := hi
  have hT := midN_I hR first s b i
  have hTl := midN_len R first s b i
  have hTn := midN_next R first s b i
  have hsu := midN_succ R first s b i
  have hoi : (noteC (cellD R (first + (i : Int), s)) b).2 = 0 := by
    have := notD_le hok (show i + 1 ≤ n + 1 by omega)
    rw [notD_succ, Bool.and_eq_true] at this
    exact of_decide_eq_true this.2
  obtain ⟨k, hk⟩ : ∃ k : KeyW, (first + (i : Int), s) = k := ⟨_, rfl⟩
  obtain ⟨T, hTT⟩ : ∃ T, midN R first s b i = T := ⟨_, rfl⟩
  have hcd : cellD R k = cellD T k := by unfold cellD; rw [hk, hTT] at hTn; rw [hTn]
  rw [hk] at hTn hsu hoi
  rw [hTT] at hT hTl hTn hsu
  rw [hcd] at hsu hoi
  have hI' := there_I hT k
  have hl' := there_look T k
  have hs' := fun c => there_set T k c
  have hn' := there_len T k
  obtain ⟨j, hj, hfj, hrj⟩ := findD_some hl'
  have hcj := hI'.ok _ (look_mem hl')
  have hcj : CelOK (cellD T k) := hcj
  have hlj := hcj.hl
  have n1 := refNote_sat (cellD T k) b hcj
  have lc := (noteC_okA (b := b) hcj).hl
  have hset := fun c' => set_at hI'.so (c' := c') hrj
  have f1 := dFind_sat most T (by omega) (first + (i : Int)) s
  have f2 := dFind_sat most (thereD T k) (by omega) (first + (i : Int)) s
  rw [hk] at f1 f2
  rw [hfj] at f2
  have hjl : j < ((thereD T k).map outR).length := by rw [List.length_map]; exact hj
  have hg := map_get (f := outR) hrj
  have pu := dPut_sat most T ((first + (i : Int), s), zC) (by omega) hT.so rfl hT.hl
  rw [hk] at pu
  rw [← hb0] at n1
  rw [← hb0] at hoi hsu lc
  generalize noteC (cellD T k) (first == last) = NE at *
  subst hk hTT
  cases hf : lookD (midN R first s b i) (first + (i : Int), s) with
  | none =>
    have et : thereD (midN R first s b i) (first + (i : Int), s) = insD (midN R first s b i) ((first + (i : Int), s), zC) := by unfold thereD; rw [hf]; rfl
    rw [findD_none hf] at f1
    have hl0 : zC.h.length = 65 := rfl
    have hbr : sets (sets (List.map D.v (tiOf Tryz.prog 52).zero) 0 [iD (first + (i : Int))]) 1 [.v (.string s)] = outR ((first + (i : Int), s), zC) := build_row0 (k := (first + (i : Int), s))
    have hr0 : (outR (((first + (i : Int), s), zC) : Rw)).length = 74 := outR_len rfl
    rw [← et] at pu
    conv => whnf
    iterate 6
      repeat' (first | exact True.intro | ((first | refine ⟨_, hbr, ?_⟩ | refine And.intro hr0 ?_ | refine ⟨j, rfl, hjl, ?_⟩ | refine ⟨_, hg, ?_⟩ | refine ⟨_, out_cell sF hlj, clen sF hlj, ?_⟩ | refine And.intro (out_lec lc) ?_ | refine ⟨_, _, hg, out_setc lc hlj, ?_⟩ | refine ⟨_, drop_id, ?_⟩ | refine ⟨_, _, at_n, ?_⟩ | refine ⟨_, _, at_hi, ?_⟩ | refine ⟨_, _, at_lo, ?_⟩ | refine ⟨_, _, at_mn, ?_⟩ | refine ⟨_, _, at_mx, ?_⟩ | refine ⟨_, _, at_ce, ?_⟩ | refine ⟨_, _, at_po, ?_⟩ | refine ⟨_, whole_z sC, clenz sC, ?_⟩ | refine ⟨_, setzC, ?_⟩ | refine And.intro (clenz sC) ?_ | refine And.intro fitzC ?_ | refine ⟨_, whole_cell sC hlj, clen sC hlj, ?_⟩ | refine And.intro (clen sC hlj) ?_ | refine And.intro (fitC hlj) ?_ | refine ⟨_, setC hlj, ?_⟩ | refine ⟨_, whole_cell sC lc, clen sC lc, ?_⟩ | refine And.intro (clen sC lc) ?_ | refine And.intro (fitC lc) ?_ | refine ⟨_, setC lc, ?_⟩ | refine ⟨_, whole_z sF, clenz sF, ?_⟩ | refine ⟨_, setzF, ?_⟩ | refine And.intro (clenz sF) ?_ | refine And.intro fitzF ?_ | refine ⟨_, whole_cell sF hlj, clen sF hlj, ?_⟩ | refine And.intro (clen sF hlj) ?_ | refine And.intro (fitF hlj) ?_ | refine ⟨_, setF hlj, ?_⟩ | refine ⟨_, whole_cell sF lc, clen sF lc, ?_⟩ | refine And.intro (clen sF lc) ?_ | refine And.intro (fitF lc) ?_ | refine ⟨_, setF lc, ?_⟩ | refine And.intro (fit1 hlj (by decide)) ?_ | refine And.intro (fit1 lc (by decide)) ?_ | refine And.intro (fit1 rfl (by decide)) ?_ | refine ⟨_, sum_cell s25, rfl, ?_⟩ | refine ⟨_, set_n _, ?_⟩ | refine ⟨_, set_mn _, ?_⟩ | refine ⟨_, set_mx _, ?_⟩ | refine ⟨_, set_ce _, ?_⟩ | refine ⟨_, set_po _, ?_⟩ | refine ⟨_, set_s _, ?_⟩ | refine ⟨_, set_hi _, ?_⟩ | refine ⟨_, set_lo _, ?_⟩ | refine And.intro (fun _ => ?_) tf | refine And.intro ft (fun _ => ?_) | refine And.intro (by kernel_rfl) ?_ | refine And.intro (by decide) ?_ | refine And.intro (fun _ => ?_) (fun h => absurd h (by decide)) | refine And.intro (fun h => absurd h (by decide)) (fun _ => ?_) | refine ⟨_, _, f1.at2 2 3 rfl rfl rfl rfl rfl, ?_⟩ | refine ⟨_, _, f2.at2 2 4 rfl rfl rfl rfl rfl, ?_⟩ | refine ⟨_, _, pu.at2 2 3 rfl rfl rfl rfl rfl, ?_⟩ | refine ⟨_, _, n1.pu rfl rfl, ?_⟩ | fail); conv => whnf) | (refine And.intro (fun _ => ?_) (fun _ => ?_) <;> conv => whnf) | fail)
      all_goals try (refine Or.inl ?_; conv => whnf)
    · exact (Bool.noConfusion (show true = false from (‹(NE.2 != 0) = true›).symm.trans (by rw [hoi]; rfl)))
    · have hie : i = n := by have := beq_iff_eq.1 ‹(first + (i : Int) == last) = true›; omega
      subst hie
      all_goals refine ⟨[(2, 4)], ?_⟩
      repeat (any_goals (first | exact True.intro | exact rfl | with_reducible_and_instances rfl | exact (by kernel_rfl) | refine And.intro ?_ ?_))
      all_goals conv => whnf
      rw [← List.map_set, hset, hs', ← hsu, hb0]
    · have hie : i < n := by
        have h : (first + (i : Int) == last) = false := ‹_›
        simp at h; omega
      refine ⟨i + 1, show i + 1 ≤ n from hie, show n + 1 - (i + 1) < n + 1 - i by omega, ?_⟩
      all_goals refine ⟨[(3, 4)], ?_⟩
      repeat (any_goals (first | exact True.intro | exact rfl | with_reducible_and_instances rfl | exact (by kernel_rfl) | refine And.intro ?_ ?_))
      all_goals conv => whnf
      · show iA (IntKind.i64.wrap (first + (i : Int) + 1)) = iA (first + ((i + 1 : Nat) : Int))
        unfold in64 at h1 h2
        rw [wi (by omega) (by omega), Int.natCast_succ, Int.add_assoc]
      · rw [← List.map_set, hset, hs', ← hsu, hb0]
  | some x =>
    have et : thereD (midN R first s b i) (first + (i : Int), s) = midN R first s b i := by unfold thereD; rw [hf]; rfl
    rw [et] at f2 hjl hg hset hs'
    conv => whnf
    iterate 6
      repeat' (first | exact True.intro | ((first | refine ⟨j, rfl, hjl, ?_⟩ | refine ⟨_, hg, ?_⟩ | refine ⟨_, out_cell sF hlj, clen sF hlj, ?_⟩ | refine And.intro (out_lec lc) ?_ | refine ⟨_, _, hg, out_setc lc hlj, ?_⟩ | refine ⟨_, drop_id, ?_⟩ | refine ⟨_, _, at_n, ?_⟩ | refine ⟨_, _, at_hi, ?_⟩ | refine ⟨_, _, at_lo, ?_⟩ | refine ⟨_, _, at_mn, ?_⟩ | refine ⟨_, _, at_mx, ?_⟩ | refine ⟨_, _, at_ce, ?_⟩ | refine ⟨_, _, at_po, ?_⟩ | refine ⟨_, whole_z sC, clenz sC, ?_⟩ | refine ⟨_, setzC, ?_⟩ | refine And.intro (clenz sC) ?_ | refine And.intro fitzC ?_ | refine ⟨_, whole_cell sC hlj, clen sC hlj, ?_⟩ | refine And.intro (clen sC hlj) ?_ | refine And.intro (fitC hlj) ?_ | refine ⟨_, setC hlj, ?_⟩ | refine ⟨_, whole_cell sC lc, clen sC lc, ?_⟩ | refine And.intro (clen sC lc) ?_ | refine And.intro (fitC lc) ?_ | refine ⟨_, setC lc, ?_⟩ | refine ⟨_, whole_z sF, clenz sF, ?_⟩ | refine ⟨_, setzF, ?_⟩ | refine And.intro (clenz sF) ?_ | refine And.intro fitzF ?_ | refine ⟨_, whole_cell sF hlj, clen sF hlj, ?_⟩ | refine And.intro (clen sF hlj) ?_ | refine And.intro (fitF hlj) ?_ | refine ⟨_, setF hlj, ?_⟩ | refine ⟨_, whole_cell sF lc, clen sF lc, ?_⟩ | refine And.intro (clen sF lc) ?_ | refine And.intro (fitF lc) ?_ | refine ⟨_, setF lc, ?_⟩ | refine And.intro (fit1 hlj (by decide)) ?_ | refine And.intro (fit1 lc (by decide)) ?_ | refine And.intro (fit1 rfl (by decide)) ?_ | refine ⟨_, sum_cell s25, rfl, ?_⟩ | refine ⟨_, set_n _, ?_⟩ | refine ⟨_, set_mn _, ?_⟩ | refine ⟨_, set_mx _, ?_⟩ | refine ⟨_, set_ce _, ?_⟩ | refine ⟨_, set_po _, ?_⟩ | refine ⟨_, set_s _, ?_⟩ | refine ⟨_, set_hi _, ?_⟩ | refine ⟨_, set_lo _, ?_⟩ | refine And.intro (fun _ => ?_) tf | refine And.intro ft (fun _ => ?_) | refine And.intro (by kernel_rfl) ?_ | refine And.intro (by decide) ?_ | refine And.intro (fun _ => ?_) (fun h => absurd h (by decide)) | refine And.intro (fun h => absurd h (by decide)) (fun _ => ?_) | refine ⟨_, _, f2.at2 2 3 rfl rfl rfl rfl rfl, ?_⟩ | refine ⟨_, _, n1.pu rfl rfl, ?_⟩ | fail); conv => whnf) | (refine And.intro (fun _ => ?_) (fun _ => ?_) <;> conv => whnf) | fail)
      all_goals try (refine Or.inl ?_; conv => whnf)
    all_goals try exact (bno ‹decide ((j : Int) < 0) = true› (decide_eq_false (by omega))).elim
    · exact (Bool.noConfusion (show true = false from (‹(NE.2 != 0) = true›).symm.trans (by rw [hoi]; rfl)))
    · have hie : i = n := by have := beq_iff_eq.1 ‹(first + (i : Int) == last) = true›; omega
      subst hie
      all_goals refine ⟨[(2, 3)], ?_⟩
      repeat (any_goals (first | exact True.intro | exact rfl | with_reducible_and_instances rfl | exact (by kernel_rfl) | refine And.intro ?_ ?_))
      all_goals conv => whnf
      rw [← List.map_set, hset, hs', ← hsu, hb0]
    · have hie : i < n := by
        have h : (first + (i : Int) == last) = false := ‹_›
        simp at h; omega
      refine ⟨i + 1, show i + 1 ≤ n from hie, show n + 1 - (i + 1) < n + 1 - i by omega, ?_⟩
      all_goals refine ⟨[], ?_⟩
      repeat (any_goals (first | exact True.intro | exact rfl | with_reducible_and_instances rfl | exact (by kernel_rfl) | refine And.intro ?_ ?_))
      all_goals conv => whnf
      · show iA (IntKind.i64.wrap (first + (i : Int) + 1)) = iA (first + ((i + 1 : Nat) : Int))
        unfold in64 at h1 h2
        rw [wi (by omega) (by omega), Int.natCast_succ, Int.add_assoc]
      · rw [← List.map_set, hset, hs', ← hsu, hb0]
set_option maxHeartbeats 32000000 in
theorem dNote_err (most : Int) (R : List Rw) (first last : Int) (s : ByteArray) (hR : RwI R) (h1 : in64 first) (h2 : in64 last) (hmo : 1 ≤ most ∧ most ≤ 1024) (hlen : R.length ≤ 50000) (g1 : ¬ last < first) (g2 : dRoom most R first last s = true) (he : (dNote most R first last s).2 ≠ 0) :
    (Sat Tryz.prog 24 [.ptr 0 0, iA first, iA last, .d (.v (.string s))] (dO most R) (iA 12) (dO most R)) ∧ dNote most R first last s = (R, 12) := by
  have hm : (R.map outR).length = R.length := List.length_map _
  have r1 := dRoom_sat most R first last s h1 h2 hmo (by omega)
  have g3 : last - first < most := by
    have g2 := g2
    unfold dRoom at g2
    rw [if_neg g1] at g2
    by_cases q : most ≤ last - first
    · rw [if_pos q] at g2; exact Bool.noConfusion g2
    · omega
  obtain ⟨n, hn⟩ : ∃ n : Nat, last - first = n := ⟨(last - first).toNat, by omega⟩
  have hb0 : (first == last) = decide (first = last) := bneB _ _
  obtain ⟨b, hb⟩ : ∃ b, decide (first = last) = b := ⟨_, rfl⟩
  rw [hb] at hb0
  have e : dNote most R first last s = if notD R first s b (n + 1) then (midN R first s b (n + 1), 0) else (R, 12) := by
    unfold dNote
    rw [if_neg g1, if_neg (by rw [g2]; simp), hn, hb]; rfl
  have hok : notD R first s b (n + 1) = false := by
    cases g : notD R first s b (n + 1) with
    | false => rfl
    | true => rw [e, g] at he; simp at he
  rw [hok, if_neg (by simp)] at e
  refine ⟨?_, e⟩
  clear he e
  rw [g2] at r1
  have cp := dCopy_sat most R (by omega)
  refine sat_of_vc (T := tiOf Tryz.prog) (E := E0) Tryz.func24 rfl rfl hE0 hm0 rfl ?_
  conv => whnf
  iterate 4
    repeat' (first | exact True.intro | ((first | refine And.intro (fun _ => ?_) tf | refine And.intro ft (fun _ => ?_) | refine And.intro (by kernel_rfl) ?_ | refine And.intro (by decide) ?_ | refine And.intro (fun _ => ?_) (fun h => absurd h (by decide)) | refine And.intro (fun h => absurd h (by decide)) (fun _ => ?_) | refine ⟨_, _, r1.at2 0 1 rfl rfl rfl rfl rfl, ?_⟩ | refine ⟨_, _, cp.at2 0 1 rfl rfl rfl rfl rfl, ?_⟩ | fail); conv => whnf) | (refine And.intro (fun _ => ?_) (fun _ => ?_) <;> conv => whnf) | fail)
    all_goals try (refine Or.inl ?_; conv => whnf)
  all_goals try exact (bno ‹decide (first > last) = true› (decide_eq_false (show ¬ first > last by omega))).elim
  all_goals try (exfalso; simp only [decide_eq_true_eq, decide_eq_false_iff_not, Bool.not_eq_true', Bool.not_eq_false', Bool.not_eq_true, Bool.not_eq_false, beq_iff_eq, bne_iff_ne, beq_eq_false_iff_ne, bne_eq_false_iff_eq, ne_eq, Decidable.not_not] at *; first | omega | contradiction | (simp_all; done) | (simp_all; omega))
  refine ⟨Nat, fun i => i ≤ n ∧ notD R first s b i = true, fun i => ([(10, iA (first + (i : Int))), (9, .ptr 2 0), (0, .ptr 0 0), (1, iA first), (2, iA last), (3, .d (.v (.string s)))], [.cells [iA most, .own 1], .sl 74 (R.map outR), .cells [iA most, .own 3], .sl 74 ((midN R first s b i).map outR)]), fun i => n + 1 - i, ⟨0, ⟨Nat.zero_le _, rfl⟩, ?_⟩, ?_⟩
  · all_goals refine ⟨[(2, 4)], ?_⟩
    repeat (any_goals (first | exact True.intro | exact rfl | with_reducible_and_instances rfl | exact (by kernel_rfl) | refine And.intro ?_ ?_))
    all_goals conv => whnf
    rw [Int.natCast_zero, Int.add_zero]
  rintro i ⟨hi, hni⟩
  replace hi : i ≤ n := hi
  replace hni : notD R first s b i = true := hni
  have hT := midN_I hR first s b i
  have hTl := midN_len R first s b i
  have hTn := midN_next R first s b i
  have hsu := midN_succ R first s b i
  have hos := notD_succ R first s b i
  rw [hni, Bool.true_and] at hos
  obtain ⟨k, hk⟩ : ∃ k : KeyW, (first + (i : Int), s) = k := ⟨_, rfl⟩
  obtain ⟨T, hTT⟩ : ∃ T, midN R first s b i = T := ⟨_, rfl⟩
  have hcd : cellD R k = cellD T k := by unfold cellD; rw [hk, hTT] at hTn; rw [hTn]
  rw [hk] at hTn hsu hos
  rw [hTT] at hT hTl hTn hsu
  rw [hcd] at hsu hos
  have hI' := there_I hT k
  have hl' := there_look T k
  have hs' := fun c => there_set T k c
  have hn' := there_len T k
  obtain ⟨j, hj, hfj, hrj⟩ := findD_some hl'
  have hcj := hI'.ok _ (look_mem hl')
  have hcj : CelOK (cellD T k) := hcj
  have hlj := hcj.hl
  have n1 := refNote_sat (cellD T k) b hcj
  have lc := (noteC_okA (b := b) hcj).hl
  have hset := fun c' => set_at hI'.so (c' := c') hrj
  have f1 := dFind_sat most T (by omega) (first + (i : Int)) s
  have f2 := dFind_sat most (thereD T k) (by omega) (first + (i : Int)) s
  rw [hk] at f1 f2
  rw [hfj] at f2
  have hjl : j < ((thereD T k).map outR).length := by rw [List.length_map]; exact hj
  have hg := map_get (f := outR) hrj
  have pu := dPut_sat most T ((first + (i : Int), s), zC) (by omega) hT.so rfl hT.hl
  rw [hk] at pu
  rw [← hb0] at n1
  rw [← hb0] at hos hsu lc hok
  have hne := fun h => noteC_err (c := cellD T k) (b := (first == last)) (hI'.rt _ (look_mem hl')) h
  generalize noteC (cellD T k) (first == last) = NE at *
  subst hk hTT
  cases hf : lookD (midN R first s b i) (first + (i : Int), s) with
  | none =>
    have et : thereD (midN R first s b i) (first + (i : Int), s) = insD (midN R first s b i) ((first + (i : Int), s), zC) := by unfold thereD; rw [hf]; rfl
    rw [findD_none hf] at f1
    have hl0 : zC.h.length = 65 := rfl
    have hbr : sets (sets (List.map D.v (tiOf Tryz.prog 52).zero) 0 [iD (first + (i : Int))]) 1 [.v (.string s)] = outR ((first + (i : Int), s), zC) := build_row0 (k := (first + (i : Int), s))
    have hr0 : (outR (((first + (i : Int), s), zC) : Rw)).length = 74 := outR_len rfl
    rw [← et] at pu
    conv => whnf
    iterate 6
      repeat' (first | exact True.intro | ((first | refine ⟨_, hbr, ?_⟩ | refine And.intro hr0 ?_ | refine ⟨j, rfl, hjl, ?_⟩ | refine ⟨_, hg, ?_⟩ | refine ⟨_, out_cell sF hlj, clen sF hlj, ?_⟩ | refine And.intro (out_lec lc) ?_ | refine ⟨_, _, hg, out_setc lc hlj, ?_⟩ | refine ⟨_, drop_id, ?_⟩ | refine ⟨_, _, at_n, ?_⟩ | refine ⟨_, _, at_hi, ?_⟩ | refine ⟨_, _, at_lo, ?_⟩ | refine ⟨_, _, at_mn, ?_⟩ | refine ⟨_, _, at_mx, ?_⟩ | refine ⟨_, _, at_ce, ?_⟩ | refine ⟨_, _, at_po, ?_⟩ | refine ⟨_, whole_z sC, clenz sC, ?_⟩ | refine ⟨_, setzC, ?_⟩ | refine And.intro (clenz sC) ?_ | refine And.intro fitzC ?_ | refine ⟨_, whole_cell sC hlj, clen sC hlj, ?_⟩ | refine And.intro (clen sC hlj) ?_ | refine And.intro (fitC hlj) ?_ | refine ⟨_, setC hlj, ?_⟩ | refine ⟨_, whole_cell sC lc, clen sC lc, ?_⟩ | refine And.intro (clen sC lc) ?_ | refine And.intro (fitC lc) ?_ | refine ⟨_, setC lc, ?_⟩ | refine ⟨_, whole_z sF, clenz sF, ?_⟩ | refine ⟨_, setzF, ?_⟩ | refine And.intro (clenz sF) ?_ | refine And.intro fitzF ?_ | refine ⟨_, whole_cell sF hlj, clen sF hlj, ?_⟩ | refine And.intro (clen sF hlj) ?_ | refine And.intro (fitF hlj) ?_ | refine ⟨_, setF hlj, ?_⟩ | refine ⟨_, whole_cell sF lc, clen sF lc, ?_⟩ | refine And.intro (clen sF lc) ?_ | refine And.intro (fitF lc) ?_ | refine ⟨_, setF lc, ?_⟩ | refine And.intro (fit1 hlj (by decide)) ?_ | refine And.intro (fit1 lc (by decide)) ?_ | refine And.intro (fit1 rfl (by decide)) ?_ | refine ⟨_, sum_cell s25, rfl, ?_⟩ | refine ⟨_, set_n _, ?_⟩ | refine ⟨_, set_mn _, ?_⟩ | refine ⟨_, set_mx _, ?_⟩ | refine ⟨_, set_ce _, ?_⟩ | refine ⟨_, set_po _, ?_⟩ | refine ⟨_, set_s _, ?_⟩ | refine ⟨_, set_hi _, ?_⟩ | refine ⟨_, set_lo _, ?_⟩ | refine And.intro (fun _ => ?_) tf | refine And.intro ft (fun _ => ?_) | refine And.intro (by kernel_rfl) ?_ | refine And.intro (by decide) ?_ | refine And.intro (fun _ => ?_) (fun h => absurd h (by decide)) | refine And.intro (fun h => absurd h (by decide)) (fun _ => ?_) | refine ⟨_, _, f1.at2 2 3 rfl rfl rfl rfl rfl, ?_⟩ | refine ⟨_, _, f2.at2 2 4 rfl rfl rfl rfl rfl, ?_⟩ | refine ⟨_, _, pu.at2 2 3 rfl rfl rfl rfl rfl, ?_⟩ | refine ⟨_, _, n1.pu rfl rfl, ?_⟩ | fail); conv => whnf) | (refine And.intro (fun _ => ?_) (fun _ => ?_) <;> conv => whnf) | fail)
      all_goals try (refine Or.inl ?_; conv => whnf)
    · have h0 : NE.2 ≠ 0 := by have h : (NE.2 != 0) = true := ‹_›; simpa using h
      rw [hne h0]
      all_goals refine ⟨[], ?_⟩
      repeat (any_goals (first | exact True.intro | exact rfl | with_reducible_and_instances rfl | exact (by kernel_rfl) | refine And.intro ?_ ?_))
      all_goals conv => whnf
    · have hie : i = n := by have := beq_iff_eq.1 ‹(first + (i : Int) == last) = true›; omega
      have h0 : NE.2 = 0 := by have h : (NE.2 != 0) = false := ‹_›; simpa using h
      subst hie
      rw [hos, h0] at hok
      simp at hok
    · have hie : i < n := by
        have h : (first + (i : Int) == last) = false := ‹_›
        simp at h; omega
      have h0 : NE.2 = 0 := by have h : (NE.2 != 0) = false := ‹_›; simpa using h
      refine ⟨i + 1, ⟨hie, by rw [← hb0, hos, h0]; rfl⟩, show n + 1 - (i + 1) < n + 1 - i by omega, ?_⟩
      all_goals refine ⟨[(3, 4)], ?_⟩
      repeat (any_goals (first | exact True.intro | exact rfl | with_reducible_and_instances rfl | exact (by kernel_rfl) | refine And.intro ?_ ?_))
      all_goals conv => whnf
      · show iA (IntKind.i64.wrap (first + (i : Int) + 1)) = iA (first + ((i + 1 : Nat) : Int))
        unfold in64 at h1 h2
        rw [wi (by omega) (by omega), Int.natCast_succ, Int.add_assoc]
      · rw [← List.map_set, hset, hs', ← hsu, hb0]
  | some x =>
    have et : thereD (midN R first s b i) (first + (i : Int), s) = midN R first s b i := by unfold thereD; rw [hf]; rfl
    rw [et] at f2 hjl hg hset hs'
    conv => whnf
    iterate 6
      repeat' (first | exact True.intro | ((first | refine ⟨j, rfl, hjl, ?_⟩ | refine ⟨_, hg, ?_⟩ | refine ⟨_, out_cell sF hlj, clen sF hlj, ?_⟩ | refine And.intro (out_lec lc) ?_ | refine ⟨_, _, hg, out_setc lc hlj, ?_⟩ | refine ⟨_, drop_id, ?_⟩ | refine ⟨_, _, at_n, ?_⟩ | refine ⟨_, _, at_hi, ?_⟩ | refine ⟨_, _, at_lo, ?_⟩ | refine ⟨_, _, at_mn, ?_⟩ | refine ⟨_, _, at_mx, ?_⟩ | refine ⟨_, _, at_ce, ?_⟩ | refine ⟨_, _, at_po, ?_⟩ | refine ⟨_, whole_z sC, clenz sC, ?_⟩ | refine ⟨_, setzC, ?_⟩ | refine And.intro (clenz sC) ?_ | refine And.intro fitzC ?_ | refine ⟨_, whole_cell sC hlj, clen sC hlj, ?_⟩ | refine And.intro (clen sC hlj) ?_ | refine And.intro (fitC hlj) ?_ | refine ⟨_, setC hlj, ?_⟩ | refine ⟨_, whole_cell sC lc, clen sC lc, ?_⟩ | refine And.intro (clen sC lc) ?_ | refine And.intro (fitC lc) ?_ | refine ⟨_, setC lc, ?_⟩ | refine ⟨_, whole_z sF, clenz sF, ?_⟩ | refine ⟨_, setzF, ?_⟩ | refine And.intro (clenz sF) ?_ | refine And.intro fitzF ?_ | refine ⟨_, whole_cell sF hlj, clen sF hlj, ?_⟩ | refine And.intro (clen sF hlj) ?_ | refine And.intro (fitF hlj) ?_ | refine ⟨_, setF hlj, ?_⟩ | refine ⟨_, whole_cell sF lc, clen sF lc, ?_⟩ | refine And.intro (clen sF lc) ?_ | refine And.intro (fitF lc) ?_ | refine ⟨_, setF lc, ?_⟩ | refine And.intro (fit1 hlj (by decide)) ?_ | refine And.intro (fit1 lc (by decide)) ?_ | refine And.intro (fit1 rfl (by decide)) ?_ | refine ⟨_, sum_cell s25, rfl, ?_⟩ | refine ⟨_, set_n _, ?_⟩ | refine ⟨_, set_mn _, ?_⟩ | refine ⟨_, set_mx _, ?_⟩ | refine ⟨_, set_ce _, ?_⟩ | refine ⟨_, set_po _, ?_⟩ | refine ⟨_, set_s _, ?_⟩ | refine ⟨_, set_hi _, ?_⟩ | refine ⟨_, set_lo _, ?_⟩ | refine And.intro (fun _ => ?_) tf | refine And.intro ft (fun _ => ?_) | refine And.intro (by kernel_rfl) ?_ | refine And.intro (by decide) ?_ | refine And.intro (fun _ => ?_) (fun h => absurd h (by decide)) | refine And.intro (fun h => absurd h (by decide)) (fun _ => ?_) | refine ⟨_, _, f2.at2 2 3 rfl rfl rfl rfl rfl, ?_⟩ | refine ⟨_, _, n1.pu rfl rfl, ?_⟩ | fail); conv => whnf) | (refine And.intro (fun _ => ?_) (fun _ => ?_) <;> conv => whnf) | fail)
      all_goals try (refine Or.inl ?_; conv => whnf)
    all_goals try exact (bno ‹decide ((j : Int) < 0) = true› (decide_eq_false (by omega))).elim
    · have h0 : NE.2 ≠ 0 := by have h : (NE.2 != 0) = true := ‹_›; simpa using h
      rw [hne h0]
      all_goals refine ⟨[], ?_⟩
      repeat (any_goals (first | exact True.intro | exact rfl | with_reducible_and_instances rfl | exact (by kernel_rfl) | refine And.intro ?_ ?_))
      all_goals conv => whnf
    · have hie : i = n := by have := beq_iff_eq.1 ‹(first + (i : Int) == last) = true›; omega
      have h0 : NE.2 = 0 := by have h : (NE.2 != 0) = false := ‹_›; simpa using h
      subst hie
      rw [hos, h0] at hok
      simp at hok
    · have hie : i < n := by
        have h : (first + (i : Int) == last) = false := ‹_›
        simp at h; omega
      have h0 : NE.2 = 0 := by have h : (NE.2 != 0) = false := ‹_›; simpa using h
      refine ⟨i + 1, ⟨hie, by rw [← hb0, hos, h0]; rfl⟩, show n + 1 - (i + 1) < n + 1 - i by omega, ?_⟩
      all_goals refine ⟨[], ?_⟩
      repeat (any_goals (first | exact True.intro | exact rfl | with_reducible_and_instances rfl | exact (by kernel_rfl) | refine And.intro ?_ ?_))
      all_goals conv => whnf
      · show iA (IntKind.i64.wrap (first + (i : Int) + 1)) = iA (first + ((i + 1 : Nat) : Int))
        unfold in64 at h1 h2
        rw [wi (by omega) (by omega), Int.natCast_succ, Int.add_assoc]
      · rw [← List.map_set, hset, hs', ← hsu, hb0]
end Go.Proofs.YtbjmdnemeidpjaaGreat
/- alive of the law 22. -/
namespace Go.Proofs.YtbjmdnemeidpjaaGreat
set_option linter.unusedSimpArgs false
set_option linter.unusedVariables false
open Go.RowKit Go.Sort
set_option maxRecDepth 100000
def sM : ByteArray := ⟨#[109]⟩
def sA : ByteArray := ⟨#[97]⟩
def nC : Cel := ⟨0, 0, 0, 0, 0, 1, z65⟩
def nC5 : Cel := ⟨1, 5, 5, 5, 0, 1, [0, 0, 0, 0, 1] ++ List.replicate 60 0⟩
def mA : Sh := [((1, sM), nC, 0), ((2, sM), nC, 1)]
def mB : Sh := [((1, sM), nC, 0), ((2, sM), nC5, 1)]
def mC : Sh := [((2, sM), nC5, 1)]
def fo4 : Cel := foldC [4]
def mD : Sh := [((2, sM), nC5, 1), ((9, sA), fo4, 2)]
theorem k_note : shNote 3 [] 0 1 2 sM = ((mA, 2), 0) := by decide +kernel
theorem k_count : shCount mA 2 (2, sM) 5 = ((mB, 2), 0) := by decide +kernel
theorem k_full : shNote 3 mB 2 3 4 sM = ((mB, 2), 20) := by decide +kernel
theorem k_none : shCount mB 2 (3, sM) 5 = ((mB, 2), 19) := by decide +kernel
theorem k_of : findX mB (2, sM) = some nC5 := by decide +kernel
theorem k_room : shRoom 3 mB 2 3 sM = true := by decide +kernel
theorem idsL_is {m : Sh} {e : List KeyW} (hp : (m.map (·.1)).Perm e) (hw : e.Pairwise fun x y => (!(ltOf cmpK) y x) = true) : idsL m = e :=
  List.Perm.eq_of_pairwise (le := fun x y => (!(ltOf cmpK) y x) = true) (fun a b _ _ h1 h2 => totK a b (by simpa using h2) (by simpa using h1)) (sorted_pw swoK _) hw ((sorted_perm cmpK _).trans hp)
theorem k_ids : idsL mB = [(1, sM), (2, sM)] := idsL_is (List.Perm.refl _) (by decide +kernel)
theorem k_below : belowN mB 2 = 1 := by unfold belowN; rw [k_ids]; decide +kernel
theorem k_outs : outsL mB 1 = [((1, sM), nC)] := by unfold outsL; rw [k_ids]; decide +kernel
theorem k_closed : closedL mB 1 = mC := by unfold closedL; rw [k_ids]; decide +kernel
theorem k_set : shSet 3 mC 2 (9, sA) fo4 = ((mD, 3), 0) := by decide +kernel
theorem k_v1 : verL mB (1, sM) = nC := by decide +kernel
theorem k_v2 : verL mB (2, sM) = nC5 := by decide +kernel
theorem i_nil : ShI ([] : Sh) 0 := ⟨⟨fun p h => (by cases h), fun p h => (by cases h)⟩, Fr.nil⟩
theorem i_A : ShI mA 2 := by
  have := i_nil.note (most := 3) 1 2 sM
  rw [k_note] at this; exact this
theorem i_B : ShI mB 2 := by
  have := i_A.count (2, sM) (v := 5) (by decide)
  rw [k_count] at this; exact this
theorem i_C : ShI mC 2 := ⟨⟨fun p h => i_B.ok.ok p (List.mem_cons_of_mem _ h), fun p h => i_B.ok.right p (List.mem_cons_of_mem _ h)⟩, ⟨by decide, by decide, by decide +kernel⟩⟩
def nAt (y : Nat) : Int := if y = 0 then 0 else if y = 1 then 11 else 32
set_option maxHeartbeats 16000000 in
theorem alive22 : Sat Tryz.prog 5 [] [] (bA true) [] := by
  have w0 := shNew_ok 3 (by decide) (by decide)
  have n1 := shNote_sat 3 [] 0 1 2 sM i_nil.ok (by decide) (by decide) (by decide) (by decide)
  rw [k_note] at n1
  have n2 := shCount_sat 3 mA 2 (2, sM) 5 i_A.ok (by decide)
  rw [k_count] at n2
  have n3 := shNote_sat 3 mB 2 3 4 sM i_B.ok (by decide) (by decide) (by decide) (by decide)
  rw [k_full] at n3
  have n4 := shCount_sat 3 mB 2 (3, sM) 5 i_B.ok (by decide)
  rw [k_none] at n4
  have n5 := shOf_sat 3 mB 2 (2, sM) fun p hp => (i_B.ok.ok p hp).hl
  rw [k_of] at n5
  have n6 := shRoom_sat 3 mB 2 2 3 sM i_B.ok (by decide) (by decide) (by decide) (by decide)
  rw [k_room] at n6
  have n7 := shClone_sat 3 mB 2
  have n8 := shClose_sat 3 mB 2 2 i_B (by decide)
  rw [k_below, k_outs, k_closed] at n8
  have n9 := shAll_sat 3 mB 2
  have f1 := fold_sat_c [4] (by decide) (by decide)
  have hf4 : CelOK fo4 := foldC_ok (by decide) (by decide)
  have n10 := shSet_sat 3 mC 2 (9, sA) fo4 i_C.ok hf4
  rw [k_set] at n10
  have n11 := shLen_sat 3 mD 3
  have n12 := shLen_sat 3 mB 2
  have hl5 : nC5.h.length = 65 := (i_B.ok.ok _ (List.mem_cons_of_mem _ (List.mem_cons_self ..))).hl
  have hl1 : nC.h.length = 65 := rfl
  have hl4 : fo4.h.length = 65 := hf4.hl
  refine sat_of_vc (T := tiOf Tryz.prog) (E := E0) Tryz.func5 rfl rfl hE0 hm0 rfl ?_
  conv => whnf
  have hlg : ((some nC5).getD zC).h.length = 65 := hl5
  have hwk : (List.map outR [((1, sM), nC)]).length = 1 := rfl
  iterate 4
    repeat' (first | exact True.intro | ((first | refine ⟨_, drop_id, ?_⟩ | refine ⟨_, _, at_n, ?_⟩ | refine ⟨_, _, at_hi, ?_⟩ | refine ⟨_, _, at_lo, ?_⟩ | refine ⟨_, _, at_mn, ?_⟩ | refine ⟨_, _, at_mx, ?_⟩ | refine ⟨_, _, at_ce, ?_⟩ | refine ⟨_, _, at_po, ?_⟩ | refine ⟨_, whole_z sC, clenz sC, ?_⟩ | refine ⟨_, setzC, ?_⟩ | refine And.intro (clenz sC) ?_ | refine And.intro fitzC ?_ | refine ⟨_, whole_cell sC hl5, clen sC hl5, ?_⟩ | refine And.intro (clen sC hl5) ?_ | refine And.intro (fitC hl5) ?_ | refine ⟨_, setC hl5, ?_⟩ | refine ⟨_, whole_cell sC hl1, clen sC hl1, ?_⟩ | refine And.intro (clen sC hl1) ?_ | refine And.intro (fitC hl1) ?_ | refine ⟨_, setC hl1, ?_⟩ | refine ⟨_, whole_cell sC hl4, clen sC hl4, ?_⟩ | refine And.intro (clen sC hl4) ?_ | refine And.intro (fitC hl4) ?_ | refine ⟨_, setC hl4, ?_⟩ | refine ⟨_, whole_z sF, clenz sF, ?_⟩ | refine ⟨_, setzF, ?_⟩ | refine And.intro (clenz sF) ?_ | refine And.intro fitzF ?_ | refine ⟨_, whole_cell sF hl5, clen sF hl5, ?_⟩ | refine And.intro (clen sF hl5) ?_ | refine And.intro (fitF hl5) ?_ | refine ⟨_, setF hl5, ?_⟩ | refine ⟨_, whole_cell sF hl1, clen sF hl1, ?_⟩ | refine And.intro (clen sF hl1) ?_ | refine And.intro (fitF hl1) ?_ | refine ⟨_, setF hl1, ?_⟩ | refine ⟨_, whole_cell sF hl4, clen sF hl4, ?_⟩ | refine And.intro (clen sF hl4) ?_ | refine And.intro (fitF hl4) ?_ | refine ⟨_, setF hl4, ?_⟩ | refine And.intro (fit1 hl5 (by decide)) ?_ | refine And.intro (fit1 hl1 (by decide)) ?_ | refine And.intro (fit1 hl4 (by decide)) ?_ | refine And.intro (fit1 rfl (by decide)) ?_ | refine ⟨_, sum_cell s25, rfl, ?_⟩ | refine ⟨_, set_n _, ?_⟩ | refine ⟨_, set_mn _, ?_⟩ | refine ⟨_, set_mx _, ?_⟩ | refine ⟨_, set_ce _, ?_⟩ | refine ⟨_, set_po _, ?_⟩ | refine ⟨_, set_s _, ?_⟩ | refine ⟨_, set_hi _, ?_⟩ | refine ⟨_, set_lo _, ?_⟩ | refine And.intro (fun _ => ?_) tf | refine And.intro ft (fun _ => ?_) | refine And.intro (by kernel_rfl) ?_ | refine And.intro (by decide) ?_ | refine And.intro (fun _ => ?_) (fun h => absurd h (by decide)) | refine And.intro (fun h => absurd h (by decide)) (fun _ => ?_) | refine ⟨_, _, w0.nw rfl, ?_⟩ | refine ⟨_, _, n1.at2 1 0 rfl rfl rfl rfl rfl, ?_⟩ | refine ⟨_, _, n2.at2 1 0 rfl rfl rfl rfl rfl, ?_⟩ | refine ⟨_, _, n3.at2 1 0 rfl rfl rfl rfl rfl, ?_⟩ | refine ⟨_, _, n4.at2 1 0 rfl rfl rfl rfl rfl, ?_⟩ | refine ⟨_, _, n5.at2 1 0 rfl rfl rfl rfl rfl, ?_⟩ | refine ⟨_, _, n6.at2 1 0 rfl rfl rfl rfl rfl, ?_⟩ | refine ⟨_, _, n7.at2 1 0 rfl rfl rfl rfl rfl, ?_⟩ | refine ⟨_, _, n8.at2 1 0 rfl rfl rfl rfl rfl, ?_⟩ | refine ⟨_, _, n9.at2 4 3 rfl rfl rfl rfl rfl, ?_⟩ | refine ⟨_, _, eqP (by kernel_rfl), ?_⟩ | fail); conv => whnf) | (refine And.intro (fun _ => ?_) (fun _ => ?_) <;> conv => whnf) | fail)
    all_goals try (refine Or.inl ?_; conv => whnf)
  refine ⟨Nat, Nat, fun y z => z = y ∧ y ≤ 2, fun z => [shO mC 2, .cells [iA 3, .mp 0], .row (cR nC5), shO mB 2, .cells [iA 3, .mp 3], .sl 74 ([((1, sM), nC)].map outR), .cells [iA (nAt z)], .cells [.ptr 4 0]], [(56, .fn (.func 30) [] [.ptr 7 0]), (12, .ptr 6 0), (11, .own 5), (10, .ptr 4 0), (9, bA true), (8, bA true), (7, .ptr 2 0), (6, iA 19), (5, iA 20), (4, iA 0), (3, iA 0), (1, .ptr 1 0)], 8, _, _, _, ([.dead, .dead, .dead, shO mB 2, .cells [iA 3, .mp 3], .dead, .dead, .cells [.ptr 4 0]], none), 0, _, _, ⟨0, ⟨rfl, Nat.zero_le _⟩, ?_⟩, rfl, by kernel_rfl, allIt (i := 7) (j := 4) (k := 3) ⟨i_B.fr.nd, i_B.fr.lt⟩ (by decide) rfl rfl rfl, ?_, ?_, ?_, ?_⟩
  · all_goals refine ⟨[], ?_⟩
    repeat (any_goals (first | exact True.intro | exact rfl | with_reducible_and_instances rfl | exact (by kernel_rfl) | refine And.intro ?_ ?_))
    all_goals conv => whnf
  · rintro y x y' ⟨e, _, rfl⟩; rfl
  · rintro y z _; exact ⟨⟨rfl, rfl, rfl, trivial⟩, (show 8 ≤ 8 by decide)⟩
  · rintro y z x y' ⟨rfl, hy⟩ ⟨k, ⟨hk, rfl⟩, rfl⟩
    rw [k_ids] at hk
    match z, hk with
    | 0, hk =>
      have := Option.some.inj hk
      subst this
      rw [k_v1]
      conv => whnf
      iterate 2
        repeat' (first | exact True.intro | ((first | refine ⟨_, drop_id, ?_⟩ | refine ⟨_, _, at_n, ?_⟩ | refine ⟨_, _, at_hi, ?_⟩ | refine ⟨_, _, at_lo, ?_⟩ | refine ⟨_, _, at_mn, ?_⟩ | refine ⟨_, _, at_mx, ?_⟩ | refine ⟨_, _, at_ce, ?_⟩ | refine ⟨_, _, at_po, ?_⟩ | refine ⟨_, whole_z sC, clenz sC, ?_⟩ | refine ⟨_, setzC, ?_⟩ | refine And.intro (clenz sC) ?_ | refine And.intro fitzC ?_ | refine ⟨_, whole_cell sC hl1, clen sC hl1, ?_⟩ | refine And.intro (clen sC hl1) ?_ | refine And.intro (fitC hl1) ?_ | refine ⟨_, setC hl1, ?_⟩ | refine ⟨_, whole_z sF, clenz sF, ?_⟩ | refine ⟨_, setzF, ?_⟩ | refine And.intro (clenz sF) ?_ | refine And.intro fitzF ?_ | refine ⟨_, whole_cell sF hl1, clen sF hl1, ?_⟩ | refine And.intro (clen sF hl1) ?_ | refine And.intro (fitF hl1) ?_ | refine ⟨_, setF hl1, ?_⟩ | refine And.intro (fit1 hl1 (by decide)) ?_ | refine And.intro (fit1 rfl (by decide)) ?_ | refine ⟨_, sum_cell s25, rfl, ?_⟩ | refine ⟨_, set_n _, ?_⟩ | refine ⟨_, set_mn _, ?_⟩ | refine ⟨_, set_mx _, ?_⟩ | refine ⟨_, set_ce _, ?_⟩ | refine ⟨_, set_po _, ?_⟩ | refine ⟨_, set_s _, ?_⟩ | refine ⟨_, set_hi _, ?_⟩ | refine ⟨_, set_lo _, ?_⟩ | refine And.intro (fun _ => ?_) tf | refine And.intro ft (fun _ => ?_) | refine And.intro (by kernel_rfl) ?_ | refine And.intro (by decide) ?_ | refine And.intro (fun _ => ?_) (fun h => absurd h (by decide)) | refine And.intro (fun h => absurd h (by decide)) (fun _ => ?_) | fail); conv => whnf) | (refine And.intro (fun _ => ?_) (fun _ => ?_) <;> conv => whnf) | fail)
        all_goals try (refine Or.inl ?_; conv => whnf)
      refine ⟨1, ⟨rfl, by decide⟩, ?_⟩
      all_goals refine ⟨[], ?_⟩
      repeat (any_goals (first | exact True.intro | exact rfl | with_reducible_and_instances rfl | exact (by kernel_rfl) | refine And.intro ?_ ?_))
      all_goals conv => whnf
    | 1, hk =>
      have := Option.some.inj hk
      subst this
      rw [k_v2]
      conv => whnf
      iterate 2
        repeat' (first | exact True.intro | ((first | refine ⟨_, drop_id, ?_⟩ | refine ⟨_, _, at_n, ?_⟩ | refine ⟨_, _, at_hi, ?_⟩ | refine ⟨_, _, at_lo, ?_⟩ | refine ⟨_, _, at_mn, ?_⟩ | refine ⟨_, _, at_mx, ?_⟩ | refine ⟨_, _, at_ce, ?_⟩ | refine ⟨_, _, at_po, ?_⟩ | refine ⟨_, whole_z sC, clenz sC, ?_⟩ | refine ⟨_, setzC, ?_⟩ | refine And.intro (clenz sC) ?_ | refine And.intro fitzC ?_ | refine ⟨_, whole_cell sC hl5, clen sC hl5, ?_⟩ | refine And.intro (clen sC hl5) ?_ | refine And.intro (fitC hl5) ?_ | refine ⟨_, setC hl5, ?_⟩ | refine ⟨_, whole_z sF, clenz sF, ?_⟩ | refine ⟨_, setzF, ?_⟩ | refine And.intro (clenz sF) ?_ | refine And.intro fitzF ?_ | refine ⟨_, whole_cell sF hl5, clen sF hl5, ?_⟩ | refine And.intro (clen sF hl5) ?_ | refine And.intro (fitF hl5) ?_ | refine ⟨_, setF hl5, ?_⟩ | refine And.intro (fit1 hl5 (by decide)) ?_ | refine And.intro (fit1 rfl (by decide)) ?_ | refine ⟨_, sum_cell s25, rfl, ?_⟩ | refine ⟨_, set_n _, ?_⟩ | refine ⟨_, set_mn _, ?_⟩ | refine ⟨_, set_mx _, ?_⟩ | refine ⟨_, set_ce _, ?_⟩ | refine ⟨_, set_po _, ?_⟩ | refine ⟨_, set_s _, ?_⟩ | refine ⟨_, set_hi _, ?_⟩ | refine ⟨_, set_lo _, ?_⟩ | refine And.intro (fun _ => ?_) tf | refine And.intro ft (fun _ => ?_) | refine And.intro (by kernel_rfl) ?_ | refine And.intro (by decide) ?_ | refine And.intro (fun _ => ?_) (fun h => absurd h (by decide)) | refine And.intro (fun h => absurd h (by decide)) (fun _ => ?_) | fail); conv => whnf) | (refine And.intro (fun _ => ?_) (fun _ => ?_) <;> conv => whnf) | fail)
        all_goals try (refine Or.inl ?_; conv => whnf)
      refine ⟨2, ⟨rfl, by decide⟩, ?_⟩
      all_goals refine ⟨[], ?_⟩
      repeat (any_goals (first | exact True.intro | exact rfl | with_reducible_and_instances rfl | exact (by kernel_rfl) | refine And.intro ?_ ?_))
      all_goals conv => whnf
    | n + 2, hk => simp at hk
  · rintro y z hF ⟨rfl, hy⟩
    have hF : z = 2 := hF
    subst hF
    conv => whnf
    iterate 3
      repeat' (first | exact True.intro | ((first | refine ⟨0, rfl, (show 0 < 1 by decide), ?_⟩ | refine ⟨outR ((1, sM), nC), rfl, ?_⟩ | refine ⟨_, drop_id, ?_⟩ | refine ⟨_, _, at_n, ?_⟩ | refine ⟨_, _, at_hi, ?_⟩ | refine ⟨_, _, at_lo, ?_⟩ | refine ⟨_, _, at_mn, ?_⟩ | refine ⟨_, _, at_mx, ?_⟩ | refine ⟨_, _, at_ce, ?_⟩ | refine ⟨_, _, at_po, ?_⟩ | refine ⟨_, whole_z sC, clenz sC, ?_⟩ | refine ⟨_, setzC, ?_⟩ | refine And.intro (clenz sC) ?_ | refine And.intro fitzC ?_ | refine ⟨_, whole_cell sC hl5, clen sC hl5, ?_⟩ | refine And.intro (clen sC hl5) ?_ | refine And.intro (fitC hl5) ?_ | refine ⟨_, setC hl5, ?_⟩ | refine ⟨_, whole_cell sC hl1, clen sC hl1, ?_⟩ | refine And.intro (clen sC hl1) ?_ | refine And.intro (fitC hl1) ?_ | refine ⟨_, setC hl1, ?_⟩ | refine ⟨_, whole_cell sC hl4, clen sC hl4, ?_⟩ | refine And.intro (clen sC hl4) ?_ | refine And.intro (fitC hl4) ?_ | refine ⟨_, setC hl4, ?_⟩ | refine ⟨_, whole_z sF, clenz sF, ?_⟩ | refine ⟨_, setzF, ?_⟩ | refine And.intro (clenz sF) ?_ | refine And.intro fitzF ?_ | refine ⟨_, whole_cell sF hl5, clen sF hl5, ?_⟩ | refine And.intro (clen sF hl5) ?_ | refine And.intro (fitF hl5) ?_ | refine ⟨_, setF hl5, ?_⟩ | refine ⟨_, whole_cell sF hl1, clen sF hl1, ?_⟩ | refine And.intro (clen sF hl1) ?_ | refine And.intro (fitF hl1) ?_ | refine ⟨_, setF hl1, ?_⟩ | refine ⟨_, whole_cell sF hl4, clen sF hl4, ?_⟩ | refine And.intro (clen sF hl4) ?_ | refine And.intro (fitF hl4) ?_ | refine ⟨_, setF hl4, ?_⟩ | refine And.intro (fit1 hl5 (by decide)) ?_ | refine And.intro (fit1 hl1 (by decide)) ?_ | refine And.intro (fit1 hl4 (by decide)) ?_ | refine And.intro (fit1 rfl (by decide)) ?_ | refine ⟨_, sum_cell s25, rfl, ?_⟩ | refine ⟨_, set_n _, ?_⟩ | refine ⟨_, set_mn _, ?_⟩ | refine ⟨_, set_mx _, ?_⟩ | refine ⟨_, set_ce _, ?_⟩ | refine ⟨_, set_po _, ?_⟩ | refine ⟨_, set_s _, ?_⟩ | refine ⟨_, set_hi _, ?_⟩ | refine ⟨_, set_lo _, ?_⟩ | refine And.intro (fun _ => ?_) tf | refine And.intro ft (fun _ => ?_) | refine And.intro (by kernel_rfl) ?_ | refine And.intro (by decide) ?_ | refine And.intro (fun _ => ?_) (fun h => absurd h (by decide)) | refine And.intro (fun h => absurd h (by decide)) (fun _ => ?_) | refine ⟨_, _, lendO f1 rfl rfl, ?_⟩ | refine ⟨_, _, n10.at2 1 0 rfl rfl rfl rfl rfl, ?_⟩ | refine ⟨_, _, n11.at2 1 0 rfl rfl rfl rfl rfl, ?_⟩ | refine ⟨_, _, n12.at2 4 3 rfl rfl rfl rfl rfl, ?_⟩ | refine ⟨_, _, eqT, ?_⟩ | fail); conv => whnf) | (refine And.intro (fun _ => ?_) (fun _ => ?_) <;> conv => whnf) | fail)
      all_goals try (refine Or.inl ?_; conv => whnf)
    all_goals refine ⟨[], ?_⟩
    repeat (any_goals (first | exact True.intro | exact rfl | with_reducible_and_instances rfl | exact (by kernel_rfl) | refine And.intro ?_ ?_))
    all_goals conv => whnf
end Go.Proofs.YtbjmdnemeidpjaaGreat
/- A call with four objects of the caller's; nil that turns to an owned slice at a call. No program is named here. -/
namespace Go.Proofs.YtbjmdnemeidpjaaGreat
set_option linter.unusedSimpArgs false
set_option linter.unusedVariables false
open Go.RowKit
theorem Sat.at4' {P : Program} {g : FuncId} {args : List AV} {o o' p p' q q' s s' : AObj} {N L : List AObj} {n : Nat} {r : AV} (h : Sat P g args [o, p, q, s] r (o' :: p' :: q' :: s' :: N)) (a b c d : Nat) (hab : decide ([a, b, c, d].Nodup) = true) (hlive : (o.live && p.live && q.live && s.live) = true) (hids : (AV.lts 4 args && AObj.lts 4 [o, p, q, s]) = true)
    (ha : L[a]? = some (o.rn (sub [a, b, c, d] n))) (hb : L[b]? = some (p.rn (sub [a, b, c, d] n))) (hc : L[c]? = some (q.rn (sub [a, b, c, d] n))) (hd : L[d]? = some (s.rn (sub [a, b, c, d] n))) :
    CallOK P g (AV.rns (sub [a, b, c, d] n) args) L n ⟨[a, b, c, d], [(a, o'.rn (sub [a, b, c, d] n)), (b, p'.rn (sub [a, b, c, d] n)), (c, q'.rn (sub [a, b, c, d] n)), (d, s'.rn (sub [a, b, c, d] n))], AObj.rns (sub [a, b, c, d] n) N⟩ (r.rn (sub [a, b, c, d] n)) := by
  simp only [Bool.and_eq_true] at hlive
  exact h.at_ [a, b, c, d] L n rfl (of_decide_eq_true hab) rfl (by simp [AObj.lives, hlive]) hids fun j hj => by
    match j, hj with
    | 0, _ => exact ha
    | 1, _ => exact hb
    | 2, _ => exact hc
    | 3, _ => exact hd
section
variable {P : Program} {F : Nat → Prop} {ρ : Nat → Option Value} {w : World}
/-- A nil in the last cell of the last object may stand for an owned slice without rows. -/
theorem Sat.nilOwn {g : FuncId} {args : List AV} {H : List AObj} {cs : List AV} {s : Nat} {r : AV} {H' : List AObj} (h : Sat P g args (H ++ [.cells (cs ++ [.own (H.length + 1)]), .sl s []]) r H') :
    Sat P g args (H ++ [.cells (cs ++ [.d (.v (.slice none 0 0))])]) r H' := by
  intro F ρ w vals En hv
  have q0 : ∀ i, i < H.length → hp (H ++ [.cells (cs ++ [.own (H.length + 1)]), .sl s []]) i = hp (H ++ [.cells (cs ++ [.d (.v (.slice none 0 0))])]) i := fun i hi => by
    unfold hp; rw [List.getElem?_append_left hi, List.getElem?_append_left hi]
  have q1 : hp (H ++ [.cells (cs ++ [.own (H.length + 1)]), .sl s []]) H.length = some (.cells (cs ++ [.own (H.length + 1)])) := by
    unfold hp; rw [List.getElem?_append_right (Nat.le_refl _), Nat.sub_self]; rfl
  have q2 : hp (H ++ [.cells (cs ++ [.own (H.length + 1)]), .sl s []]) (H.length + 1) = some (.sl s []) := by
    unfold hp; rw [List.getElem?_append_right (by omega), show H.length + 1 - H.length = 1 by omega]; rfl
  have q3 : ∀ i, H.length + 1 < i → hp (H ++ [.cells (cs ++ [.own (H.length + 1)]), .sl s []]) i = none := fun i hi => by
    unfold hp; rw [List.getElem?_eq_none_iff]; simp; omega
  have p1 : hp (H ++ [.cells (cs ++ [.d (.v (.slice none 0 0))])]) H.length = some (.cells (cs ++ [.d (.v (.slice none 0 0))])) := by
    unfold hp; rw [List.getElem?_append_right (Nat.le_refl _), Nat.sub_self]; rfl
  have p2 : ∀ i, H.length < i → hp (H ++ [.cells (cs ++ [.d (.v (.slice none 0 0))])]) i = none := fun i hi => by
    unfold hp; rw [List.getElem?_eq_none_iff]; simp; omega
  generalize hH1 : hp (H ++ [.cells (cs ++ [.own (H.length + 1)]), .sl s []]) = H1 at *
  generalize hH0 : hp (H ++ [.cells (cs ++ [.d (.v (.slice none 0 0))])]) = H0 at *
  have hn : ρ (H.length + 1) = none := En.abs _ (p2 _ (Nat.lt_succ_self _))
  have hkp : Keep ρ (updF ρ (H.length + 1) (some (.slice none 0 0))) := fun i v hi => by
    rw [updF_ne _ _ (fun e => by subst e; rw [hn] at hi; cases hi)]; exact hi
  have hin : ∀ i o, H1 i = some o → o.live = true → i ≠ H.length + 1 → ∃ o', H0 i = some o' ∧ o'.live = true := fun i o hi hl hne => by
    by_cases c1 : i < H.length
    · exact ⟨o, by rw [← q0 i c1]; exact hi, hl⟩
    · by_cases c2 : i = H.length
      · subst c2; exact ⟨_, p1, rfl⟩
      · rw [q3 i (by omega)] at hi; cases hi
  have hLv : ∀ b, Lv (updF ρ (H.length + 1) (some (.slice none 0 0))) H1 b → Lv ρ H0 b := fun b ⟨i, o, v, h1, h2, h3, h4⟩ => by
    by_cases c : i = H.length + 1
    · subst c; rw [updF_same] at h3; injection h3 with h3; subst h3; cases h4
    · obtain ⟨o', h5, h6⟩ := hin i o h1 h2 c
      rw [updF_ne _ _ c] at h3
      exact ⟨i, o', v, h5, h6, h3, h4⟩
  have E1 : Env F (updF ρ (H.length + 1) (some (.slice none 0 0))) H1 w := by
    refine ⟨En.fb, fun i hi => ?_, fun i o hi hl => ?_, fun i j o o' v v' b h1 h2 l1 l2 r1 r2 b1 b2 => ?_⟩
    · by_cases c : i = H.length + 1
      · subst c; rw [q2] at hi; cases hi
      · rw [updF_ne _ _ c]
        refine En.abs i ?_
        by_cases c1 : i < H.length
        · rw [← q0 i c1]; exact hi
        · exact p2 i (by by_cases c2 : i = H.length; (subst c2; rw [q1] at hi; cases hi); omega)
    · by_cases c1 : i < H.length
      · obtain ⟨v, e1, e2, e3⟩ := En.rep i o (by rw [← q0 i c1]; exact hi) hl
        exact ⟨v, hkp i v e1, e2.mono (Nat.le_refl _) (fun _ _ _ => rfl) (fun _ _ => rfl) (fun _ h => h) hkp, e3⟩
      · by_cases c2 : i = H.length
        · subst c2
          rw [q1] at hi
          injection hi with hi
          subst hi
          obtain ⟨v, e1, ⟨b, t, vs, rfl, hB, hra, h1⟩, e3⟩ := En.rep _ _ p1 rfl
          refine ⟨_, hkp _ _ e1, ⟨b, t, vs, rfl, hB, ?_, h1⟩, e3⟩
          have hra' := hra.mono (w' := w) (F' := F) (fun _ _ => rfl) (fun _ h => h) hkp
          have : ∀ {cs : List AV} {us : List Value}, RAs w F (updF ρ (H.length + 1) (some (.slice none 0 0))) (cs ++ [.d (.v (.slice none 0 0))]) us → RAs w F (updF ρ (H.length + 1) (some (.slice none 0 0))) (cs ++ [.own (H.length + 1)]) us := by
            intro cs
            induction cs with
            | nil =>
              intro us h
              have h : RAs w F (updF ρ (H.length + 1) (some (.slice none 0 0))) [.d (.v (.slice none 0 0))] us := h
              obtain ⟨v, rfl, h2⟩ := RAs.one_out h
              have := h2.v_out
              subst this
              exact .cons (.own (updF_same _ _ _)) .nil
            | cons c cs ih =>
              intro us h
              cases h with | cons h hr => exact .cons h (ih hr)
          exact this hra'
        · by_cases c3 : i = H.length + 1
          · subst c3
            rw [q2] at hi
            injection hi with hi
            subst hi
            exact ⟨_, updF_same _ _ _, ⟨[], Ow.nil w 0 0 s, .nil, fun r hr => by simp at hr⟩, fun b hb => by cases hb⟩
          · rw [q3 i (by omega)] at hi; cases hi
    · have c1 : i ≠ H.length + 1 := fun c => by subst c; rw [updF_same] at r1; injection r1 with r1; subst r1; cases b1
      have c2 : j ≠ H.length + 1 := fun c => by subst c; rw [updF_same] at r2; injection r2 with r2; subst r2; cases b2
      obtain ⟨a, a1, a2⟩ := hin i o h1 l1 c1
      obtain ⟨a', a3, a4⟩ := hin j o' h2 l2 c2
      rw [updF_ne _ _ c1] at r1
      rw [updF_ne _ _ c2] at r2
      exact En.inj i j a a' v v' b a1 a3 a2 a4 r1 r2 b1 b2
  subst hH1 hH0
  refine (h F _ w vals E1 (hv.mono (fun _ _ => rfl) (fun _ h => h) hkp)).mono ?_
  rintro e w' ⟨v, he, F', ρ', S, K, E', hr⟩
  exact ⟨v, he, F', ρ', ⟨S.os, S.tape, S.output, S.size, fun b hb hl => S.unch b hb fun h => hl (hLv b h), S.fsub, fun b hb => (S.fsrc b hb).elim .inl fun h => h.elim (fun h => .inr (.inl h)) fun h => .inr (.inr (hLv b h)), fun b hb => (S.lsrc b hb).elim .inl fun h => .inr (hLv b h)⟩, fun i u hi => K i u (hkp i u hi), E', hr⟩
end
end Go.Proofs.YtbjmdnemeidpjaaGreat
/- law 22: SameOuts, Agree. -/
namespace Go.Proofs.YtbjmdnemeidpjaaGreat
set_option linter.unusedSimpArgs false
set_option linter.unusedVariables false
open Go.RowKit Go.Sort
set_option maxRecDepth 100000
theorem eqFnN {L : List AObj} {ty n : Nat} {x y : Operand} {t' : TypeId} {f : Fn} {xs ys : List AV} : Does Tryz.prog (.binOp .eql 63 x y t') ty L n [.fn f xs ys, .d (.v .nilFunc)] e0 (bA false) :=
  does_ra2 rfl fun o w F ρ ev u v ho h1 h2 hu hv => by
    have he := Tryz.underlying63
    have := hv.v_out
    subst this
    cases hu
    exact exec_eq ho h1 h2 (guard_form _ _ rfl) (run_eq (b := false) (fun d => by simp [Op.equalIn, run_underlying he]) (eq_form _ _ rfl) rfl)
theorem take_same {α : Type} {L M : List α} {i : Nat} {x y : α} (h : L.take i = M.take i) (hx : L[i]? = some x) (hy : M[i]? = some y) (e : x = y) : L.take (i + 1) = M.take (i + 1) := by
  rw [List.take_add_one, List.take_add_one, h, hx, hy, e]
set_option maxHeartbeats 16000000 in
theorem sameOuts_sat (L M : List Rw) (hL : ∀ y ∈ L, CelOK y.2) (hM : ∀ y ∈ M, CelOK y.2) (hln : L.length ≤ 100000) (hmn : M.length ≤ 100000) : Sat Tryz.prog 26 [.own 0, .own 1] [.sl 74 (L.map outR), .sl 74 (M.map outR)] (bA (decide (L = M))) [.sl 74 (L.map outR), .sl 74 (M.map outR)] := by
  have hl : (L.map outR).length = L.length := List.length_map _
  have hm : (M.map outR).length = M.length := List.length_map _
  refine sat_of_vc (T := tiOf Tryz.prog) (E := E0) Tryz.func26 rfl rfl hE0 hm0 rfl ?_
  conv => whnf
  by_cases hlen : L.length = M.length
  case neg =>
    have e : decide (L = M) = false := decide_eq_false fun e => hlen (by rw [e])
    have hb : (((L.map outR).length : Int) != ((M.map outR).length : Nat)) = true := by
      rw [hl, hm]; simp; omega
    rw [e]
    iterate 2
      repeat' (first | exact True.intro | ((first | refine And.intro (fun _ => ?_) tf | refine And.intro ft (fun _ => ?_) | refine And.intro (by kernel_rfl) ?_ | refine And.intro (by decide) ?_ | refine And.intro (fun _ => ?_) (fun h => absurd h (by decide)) | refine And.intro (fun h => absurd h (by decide)) (fun _ => ?_) | fail); conv => whnf) | (refine And.intro (fun _ => ?_) (fun _ => ?_) <;> conv => whnf) | fail)
      all_goals try (refine Or.inl ?_; conv => whnf)
    all_goals try exact (bno hb ‹_›).elim
    all_goals refine ⟨[], ?_⟩
    repeat (any_goals (first | exact True.intro | exact rfl | with_reducible_and_instances rfl | exact (by kernel_rfl) | refine And.intro ?_ ?_))
    all_goals conv => whnf
  have hb : (((L.map outR).length : Int) != ((M.map outR).length : Nat)) = false := by
    rw [hl, hm, hlen]; simp
  iterate 2
    repeat' (first | exact True.intro | ((first | refine And.intro (fun _ => ?_) tf | refine And.intro ft (fun _ => ?_) | refine And.intro (by kernel_rfl) ?_ | refine And.intro (by decide) ?_ | refine And.intro (fun _ => ?_) (fun h => absurd h (by decide)) | refine And.intro (fun h => absurd h (by decide)) (fun _ => ?_) | fail); conv => whnf) | (refine And.intro (fun _ => ?_) (fun _ => ?_) <;> conv => whnf) | fail)
    all_goals try (refine Or.inl ?_; conv => whnf)
  all_goals try exact (bno ‹_› hb).elim
  refine ⟨Nat, fun i => i ≤ L.length ∧ L.take i = M.take i, fun i => ([(5, iA i), (0, .own 0), (1, .own 1)], [.sl 74 (L.map outR), .sl 74 (M.map outR)]), fun i => L.length - i, ⟨0, ⟨Nat.zero_le _, rfl⟩, ?_⟩, ?_⟩
  · all_goals refine ⟨[], ?_⟩
    repeat (any_goals (first | exact True.intro | exact rfl | with_reducible_and_instances rfl | exact (by kernel_rfl) | refine And.intro ?_ ?_))
    all_goals conv => whnf
  rintro i ⟨hi, hs⟩
  replace hi : i ≤ L.length := hi
  replace hs : L.take i = M.take i := hs
  conv => whnf
  by_cases hlt : i < L.length
  · have hx : L[i]? = some L[i] := List.getElem?_eq_getElem hlt
    have hy : M[i]? = some M[i] := List.getElem?_eq_getElem (by omega)
    have hxc := hL _ (List.getElem_mem hlt)
    have hyc := hM _ (List.getElem_mem (show i < M.length by omega))
    generalize L[i] = x at hx hxc
    generalize M[i]'(by omega) = y at hy hyc
    have hxl := hxc.hl
    have hyl := hyc.hl
    have hgx := map_get (f := outR) hx
    have hgy := map_get (f := outR) hy
    have hil : i < (L.map outR).length := by omega
    have him : i < (M.map outR).length := by omega
    have o1 := of_sat_c x.2 hxl
    have hne : x ≠ y → decide (L = M) = false := fun h => decide_eq_false fun e => by subst e; rw [hx] at hy; exact h (Option.some.inj hy)
    iterate 5
      repeat' (first | exact True.intro | ((first | refine ⟨i, rfl, hil, ?_⟩ | refine ⟨i, rfl, him, ?_⟩ | refine ⟨_, hgx, ?_⟩ | refine ⟨_, hgy, ?_⟩ | refine ⟨_, _, at_w, ?_⟩ | refine ⟨_, _, at_s, ?_⟩ | refine ⟨_, out_cell sC hxl, clen sC hxl, ?_⟩ | refine ⟨_, out_cell sF hyl, clen sF hyl, ?_⟩ | refine ⟨_, drop_id, ?_⟩ | refine ⟨_, _, at_n, ?_⟩ | refine ⟨_, _, at_hi, ?_⟩ | refine ⟨_, _, at_lo, ?_⟩ | refine ⟨_, _, at_mn, ?_⟩ | refine ⟨_, _, at_mx, ?_⟩ | refine ⟨_, _, at_ce, ?_⟩ | refine ⟨_, _, at_po, ?_⟩ | refine ⟨_, whole_z sC, clenz sC, ?_⟩ | refine ⟨_, setzC, ?_⟩ | refine And.intro (clenz sC) ?_ | refine And.intro fitzC ?_ | refine ⟨_, whole_cell sC hxl, clen sC hxl, ?_⟩ | refine And.intro (clen sC hxl) ?_ | refine And.intro (fitC hxl) ?_ | refine ⟨_, setC hxl, ?_⟩ | refine ⟨_, whole_cell sC hyl, clen sC hyl, ?_⟩ | refine And.intro (clen sC hyl) ?_ | refine And.intro (fitC hyl) ?_ | refine ⟨_, setC hyl, ?_⟩ | refine ⟨_, whole_z sF, clenz sF, ?_⟩ | refine ⟨_, setzF, ?_⟩ | refine And.intro (clenz sF) ?_ | refine And.intro fitzF ?_ | refine ⟨_, whole_cell sF hxl, clen sF hxl, ?_⟩ | refine And.intro (clen sF hxl) ?_ | refine And.intro (fitF hxl) ?_ | refine ⟨_, setF hxl, ?_⟩ | refine ⟨_, whole_cell sF hyl, clen sF hyl, ?_⟩ | refine And.intro (clen sF hyl) ?_ | refine And.intro (fitF hyl) ?_ | refine ⟨_, setF hyl, ?_⟩ | refine And.intro (fit1 hxl (by decide)) ?_ | refine And.intro (fit1 hyl (by decide)) ?_ | refine And.intro (fit1 rfl (by decide)) ?_ | refine ⟨_, sum_cell s25, rfl, ?_⟩ | refine ⟨_, set_n _, ?_⟩ | refine ⟨_, set_mn _, ?_⟩ | refine ⟨_, set_mx _, ?_⟩ | refine ⟨_, set_ce _, ?_⟩ | refine ⟨_, set_po _, ?_⟩ | refine ⟨_, set_s _, ?_⟩ | refine ⟨_, set_hi _, ?_⟩ | refine ⟨_, set_lo _, ?_⟩ | refine And.intro (fun _ => ?_) tf | refine And.intro ft (fun _ => ?_) | refine And.intro (by kernel_rfl) ?_ | refine And.intro (by decide) ?_ | refine And.intro (fun _ => ?_) (fun h => absurd h (by decide)) | refine And.intro (fun h => absurd h (by decide)) (fun _ => ?_) | refine ⟨_, _, neT, ?_⟩ | refine ⟨_, _, o1.pu rfl rfl, ?_⟩ | refine ⟨_, _, neFF hxc hyc, ?_⟩ | fail); conv => whnf) | (refine And.intro (fun _ => ?_) (fun _ => ?_) <;> conv => whnf) | fail)
      all_goals try (refine Or.inl ?_; conv => whnf)
    · rw [hne fun e => by have h := ‹(!decide (x.2 = y.2)) = true›; rw [e] at h; simp at h]
      all_goals refine ⟨[], ?_⟩
      repeat (any_goals (first | exact True.intro | exact rfl | with_reducible_and_instances rfl | exact (by kernel_rfl) | refine And.intro ?_ ?_))
      all_goals conv => whnf
    · have h1 : (x.1.1 != y.1.1) = false := ‹_›
      have h2 : (!decide (x.1.2 = y.1.2)) = false := ‹_›
      have h3 : (!decide (x.2 = y.2)) = false := ‹_›
      simp at h1 h2 h3
      refine ⟨i + 1, ⟨hlt, take_same hs hx hy (Prod.ext (Prod.ext h1 h2) h3)⟩, show L.length - (i + 1) < L.length - i by omega, ?_⟩
      all_goals refine ⟨[], ?_⟩
      repeat (any_goals (first | exact True.intro | exact rfl | with_reducible_and_instances rfl | exact (by kernel_rfl) | refine And.intro ?_ ?_))
      all_goals conv => whnf
      exact wk1 (by omega)
    · rw [hne fun e => by have h := ‹(!decide (x.1.2 = y.1.2)) = true›; rw [e] at h; simp at h]
      all_goals refine ⟨[], ?_⟩
      repeat (any_goals (first | exact True.intro | exact rfl | with_reducible_and_instances rfl | exact (by kernel_rfl) | refine And.intro ?_ ?_))
      all_goals conv => whnf
    · rw [hne fun e => by have h := ‹(x.1.1 != y.1.1) = true›; rw [e] at h; simp at h]
      all_goals refine ⟨[], ?_⟩
      repeat (any_goals (first | exact True.intro | exact rfl | with_reducible_and_instances rfl | exact (by kernel_rfl) | refine And.intro ?_ ?_))
      all_goals conv => whnf
    · exact (bno (decide_eq_true (show (i : Int) < ((L.map outR).length : Nat) by omega)) ‹_›).elim
  · have e : decide (L = M) = true := decide_eq_true (by rw [List.take_of_length_le (by omega), List.take_of_length_le (by omega)] at hs; exact hs)
    rw [e]
    iterate 4
      repeat' (first | exact True.intro | ((first | refine And.intro (fun _ => ?_) tf | refine And.intro ft (fun _ => ?_) | refine And.intro (by kernel_rfl) ?_ | refine And.intro (by decide) ?_ | refine And.intro (fun _ => ?_) (fun h => absurd h (by decide)) | refine And.intro (fun h => absurd h (by decide)) (fun _ => ?_) | fail); conv => whnf) | (refine And.intro (fun _ => ?_) (fun _ => ?_) <;> conv => whnf) | fail)
      all_goals try (refine Or.inl ?_; conv => whnf)
    all_goals try exact (bno ‹_› (decide_eq_false (show ¬ (i : Int) < ((L.map outR).length : Nat) by omega))).elim
    all_goals refine ⟨[], ?_⟩
    repeat (any_goals (first | exact True.intro | exact rfl | with_reducible_and_instances rfl | exact (by kernel_rfl) | refine And.intro ?_ ?_))
    all_goals conv => whnf
set_option maxHeartbeats 16000000 in
theorem agree22_sat (most most' : Int) (m : Sh) (c : Nat) (R : List Rw) (hm : ShI m c) (hlen : m.length ≤ 100000) (hR : R = (idsL m).map fun k => (k, verL m k)) :
    Sat Tryz.prog 10 [.ptr 0 0, .ptr 2 0] [.cells [iA most, .mp 1], shO m c, .cells [iA most', .own 3], .sl 74 (R.map outR)] (bA true) [.cells [iA most, .mp 1], shO m c, .cells [iA most', .own 3], .sl 74 (R.map outR)] := by
  have hRl : R.length = m.length := by rw [hR, List.length_map, idsL_len]
  have hml : (R.map outR).length = m.length := by rw [List.length_map, hRl]
  have al := shAll_sat most m c
  have ln := shLen_sat most m c
  refine sat_of_vc (T := tiOf Tryz.prog) (E := E0) Tryz.func10 rfl rfl hE0 hm0 rfl ?_
  conv => whnf
  iterate 4
    repeat' (first | exact True.intro | ((first | refine And.intro (fun _ => ?_) tf | refine And.intro ft (fun _ => ?_) | refine And.intro (by kernel_rfl) ?_ | refine And.intro (by decide) ?_ | refine And.intro (fun _ => ?_) (fun h => absurd h (by decide)) | refine And.intro (fun h => absurd h (by decide)) (fun _ => ?_) | refine ⟨_, _, al.at2 0 1 rfl rfl rfl rfl rfl, ?_⟩ | refine ⟨_, _, eqFnN, ?_⟩ | fail); conv => whnf) | (refine And.intro (fun _ => ?_) (fun _ => ?_) <;> conv => whnf) | fail)
    all_goals try (refine Or.inl ?_; conv => whnf)
  refine ⟨Nat, Nat, fun y z => z = y ∧ y ≤ m.length, fun z => [.cells [iA most, .mp 1], shO m c, .cells [iA most', .own 3], .sl 74 (R.map outR), .cells [.ptr 2 0], .cells [bA false], .cells [iA z], .cells [.ptr 0 0]], [(13, .fn (.func 30) [] [.ptr 7 0]), (5, .ptr 6 0), (4, .ptr 5 0), (3, .ptr 4 0), (0, .ptr 0 0)], 8, _, _, _, ([.cells [iA most, .mp 1], shO m c, .dead, .dead, .dead, .dead, .dead, .cells [.ptr 0 0]], none), 0, _, _, ⟨0, ⟨rfl, Nat.zero_le _⟩, ?_⟩, rfl, by kernel_rfl, allIt (i := 7) (j := 0) (k := 1) ⟨hm.fr.nd, hm.fr.lt⟩ (by omega) rfl rfl rfl, ?_, ?_, ?_, ?_⟩
  · all_goals refine ⟨[], ?_⟩
    repeat (any_goals (first | exact True.intro | exact rfl | with_reducible_and_instances rfl | exact (by kernel_rfl) | refine And.intro ?_ ?_))
    all_goals conv => whnf
  · rintro y x y' ⟨e, _, rfl⟩; rfl
  · rintro y z _; exact ⟨⟨rfl, rfl, rfl, trivial⟩, (show 8 ≤ 8 by decide)⟩
  · rintro y z x y' ⟨rfl, hy⟩ ⟨k, ⟨hk, rfl⟩, rfl⟩
    have hz : z < m.length := by have := (List.getElem?_eq_some_iff.1 hk).1; rwa [idsL_len] at this
    have hxo : CelOK (verL m k) := (hm.ok.at_ k).1
    have hxl := hxo.hl
    have hg : (R.map outR)[z]? = some (outR (k, verL m k)) := by rw [hR, List.map_map, List.getElem?_map, hk]; rfl
    have hzl : z < (R.map outR).length := by omega
    have o1 := of_sat_c (verL m k) hxl
    have hs : (!decide (k.2 = k.2)) = false := by simp
    have hq : (!decide (verL m k = verL m k)) = false := by simp
    generalize verL m k = x at *
    conv => whnf
    iterate 6
      repeat' (first | exact True.intro | ((first | refine ⟨z, rfl, hzl, ?_⟩ | refine ⟨_, hg, ?_⟩ | refine ⟨_, _, at_w, ?_⟩ | refine ⟨_, _, at_s, ?_⟩ | refine ⟨_, out_cell sF hxl, clen sF hxl, ?_⟩ | refine ⟨_, drop_id, ?_⟩ | refine ⟨_, _, at_n, ?_⟩ | refine ⟨_, _, at_hi, ?_⟩ | refine ⟨_, _, at_lo, ?_⟩ | refine ⟨_, _, at_mn, ?_⟩ | refine ⟨_, _, at_mx, ?_⟩ | refine ⟨_, _, at_ce, ?_⟩ | refine ⟨_, _, at_po, ?_⟩ | refine ⟨_, whole_z sC, clenz sC, ?_⟩ | refine ⟨_, setzC, ?_⟩ | refine And.intro (clenz sC) ?_ | refine And.intro fitzC ?_ | refine ⟨_, whole_cell sC hxl, clen sC hxl, ?_⟩ | refine And.intro (clen sC hxl) ?_ | refine And.intro (fitC hxl) ?_ | refine ⟨_, setC hxl, ?_⟩ | refine ⟨_, whole_z sF, clenz sF, ?_⟩ | refine ⟨_, setzF, ?_⟩ | refine And.intro (clenz sF) ?_ | refine And.intro fitzF ?_ | refine ⟨_, whole_cell sF hxl, clen sF hxl, ?_⟩ | refine And.intro (clen sF hxl) ?_ | refine And.intro (fitF hxl) ?_ | refine ⟨_, setF hxl, ?_⟩ | refine And.intro (fit1 hxl (by decide)) ?_ | refine And.intro (fit1 rfl (by decide)) ?_ | refine ⟨_, sum_cell s25, rfl, ?_⟩ | refine ⟨_, set_n _, ?_⟩ | refine ⟨_, set_mn _, ?_⟩ | refine ⟨_, set_mx _, ?_⟩ | refine ⟨_, set_ce _, ?_⟩ | refine ⟨_, set_po _, ?_⟩ | refine ⟨_, set_s _, ?_⟩ | refine ⟨_, set_hi _, ?_⟩ | refine ⟨_, set_lo _, ?_⟩ | refine And.intro (fun _ => ?_) tf | refine And.intro ft (fun _ => ?_) | refine And.intro (by kernel_rfl) ?_ | refine And.intro (by decide) ?_ | refine And.intro (fun _ => ?_) (fun h => absurd h (by decide)) | refine And.intro (fun h => absurd h (by decide)) (fun _ => ?_) | refine ⟨_, _, neT, ?_⟩ | refine ⟨_, _, o1.pu rfl rfl, ?_⟩ | refine ⟨_, _, neFF hxo hxo, ?_⟩ | fail); conv => whnf) | (refine And.intro (fun _ => ?_) (fun _ => ?_) <;> conv => whnf) | fail)
      all_goals try (refine Or.inl ?_; conv => whnf)
    · exact (bno ‹(!decide (x = x)) = true› hq).elim
    · refine ⟨z + 1, ⟨rfl, hz⟩, ?_⟩
      all_goals refine ⟨[], ?_⟩
      repeat (any_goals (first | exact True.intro | exact rfl | with_reducible_and_instances rfl | exact (by kernel_rfl) | refine And.intro ?_ ?_))
      all_goals conv => whnf
      exact wk1 (by omega)
    · exact (bno ‹(!decide (k.2 = k.2)) = true› hs).elim
    · exact (bno ‹(k.1 != k.1) = true› (by simp)).elim
    · exact (bno ‹_› (decide_eq_false (show ¬ (z : Int) ≥ ((R.map outR).length : Nat) by omega))).elim
  · rintro y z hF ⟨rfl, hy⟩
    have hF : z = m.length := hF
    conv => whnf
    iterate 3
      repeat' (first | exact True.intro | ((first | refine And.intro (fun _ => ?_) tf | refine And.intro ft (fun _ => ?_) | refine And.intro (by kernel_rfl) ?_ | refine And.intro (by decide) ?_ | refine And.intro (fun _ => ?_) (fun h => absurd h (by decide)) | refine And.intro (fun h => absurd h (by decide)) (fun _ => ?_) | refine ⟨_, _, ln.at2 0 1 rfl rfl rfl rfl rfl, ?_⟩ | fail); conv => whnf) | (refine And.intro (fun _ => ?_) (fun _ => ?_) <;> conv => whnf) | fail)
      all_goals try (refine Or.inl ?_; conv => whnf)
    · have e : ((m.length : Int) == (z : Int)) = true := by rw [hF]; simp
      rw [e]
      all_goals refine ⟨[], ?_⟩
      repeat (any_goals (first | exact True.intro | exact rfl | with_reducible_and_instances rfl | exact (by kernel_rfl) | refine And.intro ?_ ?_))
      all_goals conv => whnf
    · exact (bno (show ((z : Int) == ((R.map outR).length : Nat)) = true by rw [hml, hF]; simp) ‹_›).elim
end Go.Proofs.YtbjmdnemeidpjaaGreat
