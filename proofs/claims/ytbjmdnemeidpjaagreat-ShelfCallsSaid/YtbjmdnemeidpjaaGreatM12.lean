/- Parts CeT, CeU, CeR, CeV of the proof, put together. -/
import Derived.Test.YtbjmdnemeidpjaaGreatM11
/- The document's Sums. -/
namespace Go.Proofs.YtbjmdnemeidpjaaGreat
set_option linter.unusedSimpArgs false
set_option linter.unusedVariables false
open Go.RowKit
set_option maxRecDepth 100000
theorem told_le {z : Int} (h : 0 ≤ z) : ((toldZ z).2 == 0) = decide (z ≤ 9223372036854775807) := by
  by_cases q : z ≤ 9223372036854775807
  · rw [told_in (show in64 z by unfold in64; omega), decide_eq_true q]; rfl
  · rw [told_out (show ¬ in64 z by unfold in64; omega), decide_eq_false q]; rfl
theorem few_sumS {l : List Cel} (hl : ∀ c ∈ l, CelOK c) (hn : l.length ≤ 1000) : few 9 (sumS l) := by
  have h : ∀ (l : List Cel), (∀ c ∈ l, CelOK c) → -170141183460469231731687303715884105728 * (l.length : Int) ≤ sumS l ∧ sumS l ≤ 170141183460469231731687303715884105728 * (l.length : Int) := by
    intro l
    induction l with
    | nil => intro _; exact ⟨Int.le_refl _, Int.le_refl _⟩
    | cons c l ih =>
      intro hl
      have h1 := ih fun d hd => hl d (List.mem_cons_of_mem _ hd)
      have h2 := (hl c (List.mem_cons_self ..)).s
      unfold in128 in64 hiZ word at h2
      have e : sumS (c :: l) = c.s + sumS l := by unfold sumS; simp
      rw [e, List.length_cons]
      omega
  have := h l hl
  unfold few
  have e : (65536 : Nat) ^ 9 = 22300745198530623141535718272648361505980416 := by decide
  rw [e]; omega
set_option maxHeartbeats 16000000 in
theorem refSums_sat (l : List Cel) (hl : ∀ c ∈ l, CelOK c) (hR : ∀ c ∈ l, RightC c) (hn : l.length ≤ 1000) : Sat Tryz.prog 60 [.d (.sl 72 (l.map cR))] [] (bA (fitsC l)) [] := by
  have hm : (l.map cR).length = l.length := List.length_map _
  refine sat_of_vc (T := tiOf Tryz.prog) (E := E0) Tryz.func60 rfl rfl hE0 hm0 rfl ?_
  conv => whnf
  iterate 2
    repeat' (first | exact True.intro | ((first | refine And.intro (fun _ => ?_) tf | refine And.intro ft (fun _ => ?_) | refine And.intro (by kernel_rfl) ?_ | refine And.intro (by decide) ?_ | refine And.intro (fun _ => ?_) (fun h => absurd h (by decide)) | refine And.intro (fun h => absurd h (by decide)) (fun _ => ?_) | fail); conv => whnf) | (refine And.intro (fun _ => ?_) (fun _ => ?_) <;> conv => whnf) | fail)
    all_goals try (refine Or.inl ?_; conv => whnf)
  refine ⟨Nat × Int × List Int, fun y => y.1 ≤ l.length ∧ y.2.1 = sumS (l.take y.1) ∧ y.2.2 = canL y.2.1.natAbs, fun y => ([(7, iA y.1), (6, .ptr 3 0), (5, .own 2), (4, .own 1), (3, .own 0), (0, .d (.sl 72 (l.map cR)))], [.sl 1 ((l.take y.1).map fun c => lR c.n), .sl 1 ((l.take y.1).map fun c => lR c.ce), .sl 1 ((l.take y.1).map fun c => lR c.po), .cells [bA (decide (y.2.1 < 0)), .d (lD y.2.2)]]), fun y => l.length - y.1, ⟨(0, 0, []), ⟨Nat.zero_le _, rfl, canL_zero.symm⟩, ?_⟩, ?_⟩
  · all_goals refine ⟨[], ?_⟩
    repeat (any_goals (first | exact True.intro | exact rfl | with_reducible_and_instances rfl | exact (by kernel_rfl) | refine And.intro ?_ ?_))
    all_goals conv => whnf
  rintro ⟨k, S, d⟩ ⟨(hk : k ≤ l.length), (hS : S = sumS (l.take k)), (hd : d = canL S.natAbs)⟩
  subst hd
  have n1 : ((l.take k).map fun c => lR c.n).length = k := by simp; omega
  have n2 : ((l.take k).map fun c => lR c.ce).length = k := by simp; omega
  have n3 : ((l.take k).map fun c => lR c.po).length = k := by simp; omega
  have fS : few 9 S := by rw [hS]; exact few_sumS (fun c hc => hl c (List.mem_of_mem_take hc)) (by rw [List.length_take]; omega)
  conv => whnf
  by_cases hlt : k < l.length
  · have hx : l[k]? = some l[k] := List.getElem?_eq_getElem hlt
    have hc := hl _ (List.getElem_mem hlt)
    have hss := sumS_succ hx
    generalize l[k] = c at hx hc hss
    rw [← hS] at hss
    have w1 := wide_num (hiZ c.s) (loZ c.s) hc.s (by unfold loZ word; omega) (by unfold loZ word; omega)
    rw [wide_split] at w1
    have a1 := add_few (k := 9) (by omega) fS (few_mono (few_in128 hc.s) (by omega))
    iterate 6
      repeat' (first | exact True.intro | ((first | refine ⟨k, _, rfl, map_get hx, ?_⟩ | refine ⟨_, drop_id, ?_⟩ | refine ⟨_, _, at_n, ?_⟩ | refine ⟨_, _, at_hi, ?_⟩ | refine ⟨_, _, at_lo, ?_⟩ | refine ⟨_, _, at_mn, ?_⟩ | refine ⟨_, _, at_mx, ?_⟩ | refine ⟨_, _, at_ce, ?_⟩ | refine ⟨_, _, at_po, ?_⟩ | refine ⟨_, whole_z sC, clenz sC, ?_⟩ | refine ⟨_, setzC, ?_⟩ | refine And.intro (clenz sC) ?_ | refine And.intro fitzC ?_ | refine ⟨_, whole_z sF, clenz sF, ?_⟩ | refine ⟨_, setzF, ?_⟩ | refine And.intro (clenz sF) ?_ | refine And.intro fitzF ?_ | refine And.intro (fit1 rfl (by decide)) ?_ | refine ⟨_, sum_cell s25, rfl, ?_⟩ | refine ⟨_, set_n _, ?_⟩ | refine ⟨_, set_mn _, ?_⟩ | refine ⟨_, set_mx _, ?_⟩ | refine ⟨_, set_ce _, ?_⟩ | refine ⟨_, set_po _, ?_⟩ | refine ⟨_, set_s _, ?_⟩ | refine ⟨_, set_hi _, ?_⟩ | refine ⟨_, set_lo _, ?_⟩ | refine And.intro (fun _ => ?_) tf | refine And.intro ft (fun _ => ?_) | refine And.intro (by kernel_rfl) ?_ | refine And.intro (by decide) ?_ | refine And.intro (fun _ => ?_) (fun h => absurd h (by decide)) | refine And.intro (fun h => absurd h (by decide)) (fun _ => ?_) | refine ⟨_, _, ap 1 8 (by kernel_rfl) rfl rfl (by simp [n1, n2, n3]; omega), ?_⟩ | refine ⟨_, _, w1.pu rfl rfl, ?_⟩ | refine ⟨_, _, a1.pu rfl rfl, ?_⟩ | fail); conv => whnf) | (refine And.intro (fun _ => ?_) (fun _ => ?_) <;> conv => whnf) | fail)
      all_goals try (refine Or.inl ?_; conv => whnf)
    all_goals try exact (noGe hlt ‹_›).elim
    refine ⟨(k + 1, S + c.s, canL (S + c.s).natAbs), ⟨hlt, hss.symm, rfl⟩, show l.length - (k + 1) < l.length - k by omega, ?_⟩
    all_goals refine ⟨[(0, 5), (1, 7), (2, 9)], ?_⟩
    repeat (any_goals (first | exact True.intro | exact rfl | with_reducible_and_instances rfl | exact (by kernel_rfl) | refine And.intro ?_ ?_))
    all_goals conv => whnf
    · exact wk1 (by omega)
    · exact congrArg (AObj.sl 1) (map_take_succ (f := fun c : Cel => lR c.n) hx).symm
    · exact congrArg (AObj.sl 1) (map_take_succ (f := fun c : Cel => lR c.ce) hx).symm
    · exact congrArg (AObj.sl 1) (map_take_succ (f := fun c : Cel => lR c.po) hx).symm
  · have hke : k = l.length := by omega
    subst hke
    rw [List.take_length] at hS
    have c1 : ∀ z ∈ l.map (·.n), in64 z := fun z hz => by obtain ⟨c, hc, rfl⟩ := List.mem_map.1 hz; exact (hl c hc).n
    have c2 : ∀ z ∈ l.map (·.ce), in64 z := fun z hz => by obtain ⟨c, hc, rfl⟩ := List.mem_map.1 hz; exact (hl c hc).ce
    have c3 : ∀ z ∈ l.map (·.po), in64 z := fun z hz => by obtain ⟨c, hc, rfl⟩ := List.mem_map.1 hz; exact (hl c hc).po
    have s1 := sum_num (l.map (·.n)) c1 (by rw [List.length_map]; omega)
    have s2 := sum_num (l.map (·.ce)) c2 (by rw [List.length_map]; omega)
    have s3 := sum_num (l.map (·.po)) c3 (by rw [List.length_map]; omega)
    rw [show lD (l.map (·.n)) = .sl 1 ((l.take l.length).map fun c => lR c.n) from congrArg (D.sl 1) (by rw [List.take_length, List.map_map]; rfl)] at s1
    rw [show lD (l.map (·.ce)) = .sl 1 ((l.take l.length).map fun c => lR c.ce) from congrArg (D.sl 1) (by rw [List.take_length, List.map_map]; rfl)] at s2
    rw [show lD (l.map (·.po)) = .sl 1 ((l.take l.length).map fun c => lR c.po) from congrArg (D.sl 1) (by rw [List.take_length, List.map_map]; rfl)] at s3
    change Sat _ _ _ _ (.tup [iA (toldZ (sumN l)).1, iA (toldZ (sumN l)).2]) _ at s1
    change Sat _ _ _ _ (.tup [iA (toldZ (sumCe l)).1, iA (toldZ (sumCe l)).2]) _ at s2
    change Sat _ _ _ _ (.tup [iA (toldZ (sumPo l)).1, iA (toldZ (sumPo l)).2]) _ at s3
    have w3 := words_num S fS
    have w3 : ∃ (hi lo : Int), Sat Tryz.prog 63 [.d (numD S)] [] (.tup [iA hi, uN lo, bA (decide (in128 S))]) [] := by
      by_cases h : in64 (hiZ S)
      · rw [if_pos h] at w3
        exact ⟨_, _, by rw [decide_eq_true (p := in128 S) h]; exact w3⟩
      · rw [if_neg h] at w3
        exact ⟨0, 0, by rw [decide_eq_false (p := in128 S) h]; exact w3⟩
    obtain ⟨hi, lo, w3⟩ := w3
    have hfit : fitsC l = ((toldZ (sumN l)).2 == 0 && (toldZ (sumCe l)).2 == 0 && (toldZ (sumPo l)).2 == 0 && decide (in128 S)) := by
      have e1 : ((toldZ (sumN l)).2 == 0) = decide (sumN l ≤ 9223372036854775807) := told_le (sumBy_nonneg (f := (·.n)) fun c hc => (hR c hc).n)
      have e2 : ((toldZ (sumCe l)).2 == 0) = decide (sumCe l ≤ 9223372036854775807) := told_le (sumBy_nonneg (f := (·.ce)) fun c hc => (hR c hc).ce)
      have e3 : ((toldZ (sumPo l)).2 == 0) = decide (sumPo l ≤ 9223372036854775807) := told_le (sumBy_nonneg (f := (·.po)) fun c hc => (hR c hc).po)
      rw [e1, e2, e3, fits_iff, hS]
    rw [hfit]
    generalize decide (in128 S) = B at *
    generalize toldZ (sumN l) = T1 at *
    generalize toldZ (sumCe l) = T2 at *
    generalize toldZ (sumPo l) = T3 at *
    iterate 4
      repeat' (first | exact True.intro | ((first | refine And.intro (fun _ => ?_) tf | refine And.intro ft (fun _ => ?_) | refine And.intro (by kernel_rfl) ?_ | refine And.intro (by decide) ?_ | refine And.intro (fun _ => ?_) (fun h => absurd h (by decide)) | refine And.intro (fun h => absurd h (by decide)) (fun _ => ?_) | refine ⟨_, _, lendO s1 rfl rfl, ?_⟩ | refine ⟨_, _, lendO s2 rfl rfl, ?_⟩ | refine ⟨_, _, lendO s3 rfl rfl, ?_⟩ | refine ⟨_, _, w3.pu rfl rfl, ?_⟩ | fail); conv => whnf) | (refine And.intro (fun _ => ?_) (fun _ => ?_) <;> conv => whnf) | fail)
      all_goals try (refine Or.inl ?_; conv => whnf)
    all_goals try exact (noLt ‹_›).elim
    · rw [‹(T1.2 == 0) = true›, ‹(T2.2 == 0) = true›, ‹(T3.2 == 0) = true›]
      all_goals refine ⟨[], ?_⟩
      repeat (any_goals (first | exact True.intro | exact rfl | with_reducible_and_instances rfl | exact (by kernel_rfl) | refine And.intro ?_ ?_))
      all_goals conv => whnf
    · rw [‹(T1.2 == 0) = true›, ‹(T2.2 == 0) = true›, ‹(T3.2 == 0) = false›]
      all_goals refine ⟨[], ?_⟩
      repeat (any_goals (first | exact True.intro | exact rfl | with_reducible_and_instances rfl | exact (by kernel_rfl) | refine And.intro ?_ ?_))
      all_goals conv => whnf
    · rw [‹(T1.2 == 0) = true›, ‹(T2.2 == 0) = false›]
      all_goals refine ⟨[], ?_⟩
      repeat (any_goals (first | exact True.intro | exact rfl | with_reducible_and_instances rfl | exact (by kernel_rfl) | refine And.intro ?_ ?_))
      all_goals conv => whnf
    · rw [‹(T1.2 == 0) = false›]
      all_goals refine ⟨[], ?_⟩
      repeat (any_goals (first | exact True.intro | exact rfl | with_reducible_and_instances rfl | exact (by kernel_rfl) | refine And.intro ?_ ?_))
      all_goals conv => whnf
end Go.Proofs.YtbjmdnemeidpjaaGreat
/- The document's Merge: its plain part. -/
namespace Go.Proofs.YtbjmdnemeidpjaaGreat
set_option linter.unusedSimpArgs false
set_option linter.unusedVariables false
open Go.RowKit
set_option maxRecDepth 100000
/-- Cells together, but for their sums. -/
def bj (l : List Cel) : Cel := ⟨sumN l, 0, mmin ((full l).map (·.mn)), mmax ((full l).map (·.mx)), sumCe l, sumPo l, mergeL (l.map (·.h))⟩
def bare (c : Cel) : Cel := ⟨c.n, 0, c.mn, c.mx, c.ce, c.po, c.h⟩
theorem set_lo2 {n s mn mx ce po : Int} {h : List Int} (x : Int) : sets (cR ⟨n, wideZ (hiZ x) (loZ s), mn, mx, ce, po, h⟩) (0 + 2) [uZ (loZ x)] = cR ⟨n, x, mn, mx, ce, po, h⟩ := by
  rw [set_lo, wideZ_two]
theorem mergeL_at {ls : List (List Int)} {b : Nat} (hb : b < 65) : (mergeL ls)[b]?.getD 0 = sumAt ls b := by
  unfold mergeL; rw [List.getElem?_map, List.getElem?_range hb]; rfl
theorem mergeL_len (ls : List (List Int)) : (mergeL ls).length = 65 := by simp [mergeL]
theorem mergeL_ok {ls : List (List Int)} (h : ls.all okH = true) : okH (mergeL ls) = true := by
  unfold okH
  refine List.all_eq_true.2 fun x hx => decide_eq_true ?_
  unfold mergeL at hx
  obtain ⟨j, _, rfl⟩ := List.mem_map.1 hx
  exact sumAt_nonneg ls j h
theorem sumN_zero : ∀ {l : List Cel}, (∀ c ∈ l, 0 ≤ c.n) → (sumN l = 0 ↔ full l = [])
  | [], _ => by simp [sumN, full]
  | c :: l, h => by
    have ih := sumN_zero (l := l) fun d hd => h d (List.mem_cons_of_mem _ hd)
    have h0 := h c (List.mem_cons_self ..)
    have h1 : 0 ≤ sumN l := sumBy_nonneg (f := (·.n)) fun d hd => h d (List.mem_cons_of_mem _ hd)
    have e : sumN (c :: l) = c.n + sumN l := by unfold sumN; simp
    rw [e]
    unfold full at *
    by_cases q : c.n = 0
    · rw [List.filter_cons_of_neg (by simp [q]), ← ih]; omega
    · rw [List.filter_cons_of_pos (by simp [q])]
      simp; omega
theorem bj_step {l : List Cel} (hl : ∀ c ∈ l, CelOK c) (hR : ∀ c ∈ l, RightC c) (hf : fitsC l = true) {k : Nat} {c : Cel} (hx : l[k]? = some c) : fits2 (bj (l.take k)) (bare c) ∧ join2 (bj (l.take k)) (bare c) = bj (l.take (k + 1)) := by
  have hmem := List.mem_of_getElem? hx
  rw [fits_iff] at hf
  simp only [Bool.and_eq_true, decide_eq_true_eq] at hf
  obtain ⟨⟨⟨f1, f2⟩, f3⟩, f4⟩ := hf
  have a1 := sumBy_take (f := (·.n)) (l := l) (fun c hc => (hR c hc).n) (k + 1)
  have a2 := sumBy_take (f := (·.ce)) (l := l) (fun c hc => (hR c hc).ce) (k + 1)
  have a3 := sumBy_take (f := (·.po)) (l := l) (fun c hc => (hR c hc).po) (k + 1)
  have s1 := sumBy_succ (f := (·.n)) hx
  have s2 := sumBy_succ (f := (·.ce)) hx
  have s3 := sumBy_succ (f := (·.po)) hx
  change sumN (l.take (k + 1)) = sumN (l.take k) + c.n at s1
  change sumCe (l.take (k + 1)) = sumCe (l.take k) + c.ce at s2
  change sumPo (l.take (k + 1)) = sumPo (l.take k) + c.po at s3
  change 0 ≤ sumN (l.take (k + 1)) ∧ sumN (l.take (k + 1)) ≤ sumN l at a1
  change 0 ≤ sumCe (l.take (k + 1)) ∧ sumCe (l.take (k + 1)) ≤ sumCe l at a2
  change 0 ≤ sumPo (l.take (k + 1)) ∧ sumPo (l.take (k + 1)) ≤ sumPo l at a3
  have hok : ∀ j, ((l.take j).map (·.h)).all okH = true := fun j => by
    rw [List.all_map]
    exact List.all_eq_true.2 fun d hd => (hR d (List.mem_of_mem_take hd)).ok
  have hsA : ∀ j, sumAt [mergeL ((l.take k).map (·.h)), c.h] j = (mergeL ((l.take k).map (·.h)))[j]?.getD 0 + c.h[j]?.getD 0 := fun j => by simp [sumAt]
  have hss : ∀ j, sumAt ((l.take (k + 1)).map (·.h)) j = sumAt ((l.take k).map (·.h)) j + c.h[j]?.getD 0 := fun j => by
    rw [List.map_take, List.map_take]
    exact sumAt_snoc (by rw [List.getElem?_map, hx]; rfl) j
  have hle : ∀ j, j < 65 → sumAt ((l.take (k + 1)).map (·.h)) j ≤ 9223372036854775807 := fun j hj => by
    have := sumAt_le (l := l.take (k + 1)) (fun d hd => hR d (List.mem_of_mem_take hd)) (fun d hd => (hl d (List.mem_of_mem_take hd)).hl) hj
    omega
  obtain ⟨m1, m2⟩ := merge_fine (ls := [mergeL ((l.take k).map (·.h)), c.h]) (by rw [List.all_cons, List.all_cons, mergeL_ok (hok k), (hR c hmem).ok]; rfl) (fun j hj => by
    rw [hsA, mergeL_at hj, ← hss]; exact hle j hj)
  have m3 : mergeL [mergeL ((l.take k).map (·.h)), c.h] = mergeL ((l.take (k + 1)).map (·.h)) := by
    refine ext65 (mergeL_len _) (mergeL_len _) fun j hj => ?_
    rw [mergeL_at hj, mergeL_at hj, hsA, mergeL_at hj, hss]
  refine ⟨⟨?_, ?_, ?_, m1, ?_⟩, ?_⟩
  · show in64 (sumN (l.take k) + c.n); unfold in64; omega
  · show in64 (sumCe (l.take k) + c.ce); unfold in64; omega
  · show in64 (sumPo (l.take k) + c.po); unfold in64; omega
  · show in128 (0 + 0); decide
  have hfs := full_succ hx
  have hz := sumN_zero (l := l.take k) fun d hd => (hR d (List.mem_of_mem_take hd)).n
  refine Cel.ext' s1.symm rfl ?_ ?_ s2.symm s3.symm (by show mergeR [mergeL ((l.take k).map (·.h)), c.h] = _; rw [m2, m3]; rfl)
  · show lowZ2 (bj (l.take k)) (bare c) = mmin ((full (l.take (k + 1))).map (·.mn))
    unfold lowZ2
    rw [hfs]
    by_cases q : c.n = 0
    · rw [if_pos (show (bare c).n = 0 from q), if_pos q, List.append_nil]; rfl
    · rw [if_neg (show ¬ (bare c).n = 0 from q), if_neg q, List.map_append]
      show _ = mmin (_ ++ [c.mn])
      rw [mmin_snoc]
      by_cases q2 : full (l.take k) = []
      · rw [if_pos (show (bj (l.take k)).n = 0 from hz.2 q2), if_pos (by rw [q2]; rfl)]; rfl
      · rw [if_neg (show ¬ (bj (l.take k)).n = 0 from fun q3 => q2 (hz.1 q3)), if_neg (fun q3 => q2 (List.map_eq_nil_iff.1 q3))]; rfl
  · show highZ2 (bj (l.take k)) (bare c) = mmax ((full (l.take (k + 1))).map (·.mx))
    unfold highZ2
    rw [hfs]
    by_cases q : c.n = 0
    · rw [if_pos (show (bare c).n = 0 from q), if_pos q, List.append_nil]; rfl
    · rw [if_neg (show ¬ (bare c).n = 0 from q), if_neg q, List.map_append]
      show _ = mmax (_ ++ [c.mx])
      rw [mmax_snoc]
      by_cases q2 : full (l.take k) = []
      · rw [if_pos (show (bj (l.take k)).n = 0 from hz.2 q2), if_pos (by rw [q2]; rfl)]; rfl
      · rw [if_neg (show ¬ (bj (l.take k)).n = 0 from fun q3 => q2 (hz.1 q3)), if_neg (fun q3 => q2 (List.map_eq_nil_iff.1 q3))]; rfl
theorem bj_ok {l : List Cel} (hl : ∀ c ∈ l, CelOK c) (hR : ∀ c ∈ l, RightC c) (hf : fitsC l = true) (k : Nat) : CelOK (bj (l.take k)) := by
  rw [fits_iff] at hf
  simp only [Bool.and_eq_true, decide_eq_true_eq] at hf
  obtain ⟨⟨⟨f1, f2⟩, f3⟩, f4⟩ := hf
  have a1 : 0 ≤ sumN (l.take k) ∧ sumN (l.take k) ≤ sumN l := sumBy_take (f := (·.n)) (l := l) (fun c hc => (hR c hc).n) k
  have a2 : 0 ≤ sumCe (l.take k) ∧ sumCe (l.take k) ≤ sumCe l := sumBy_take (f := (·.ce)) (l := l) (fun c hc => (hR c hc).ce) k
  have a3 : 0 ≤ sumPo (l.take k) ∧ sumPo (l.take k) ≤ sumPo l := sumBy_take (f := (·.po)) (l := l) (fun c hc => (hR c hc).po) k
  have hin : ∀ c ∈ full (l.take k), CelOK c := fun c hc => hl c (List.mem_of_mem_take (List.mem_filter.1 hc).1)
  refine ⟨?_, by show in128 0; decide, ?_, ?_, ?_, ?_, mergeL_len _, ?_⟩
  · show in64 (sumN (l.take k)); unfold in64; omega
  · exact (mm_in fun z hz => by obtain ⟨c, hc, rfl⟩ := List.mem_map.1 hz; exact (hin c hc).mn).1
  · exact (mm_in fun z hz => by obtain ⟨c, hc, rfl⟩ := List.mem_map.1 hz; exact (hin c hc).mx).2
  · show in64 (sumCe (l.take k)); unfold in64; omega
  · show in64 (sumPo (l.take k)); unfold in64; omega
  · intro z hz
    have hz : z ∈ mergeL ((l.take k).map (·.h)) := hz
    unfold mergeL at hz
    obtain ⟨j, hj, rfl⟩ := List.mem_map.1 hz
    have hj := List.mem_range.1 hj
    have h1 := sumAt_nonneg ((l.take k).map (·.h)) j (by rw [List.all_map]; exact List.all_eq_true.2 fun d hd => (hR d (List.mem_of_mem_take hd)).ok)
    have h2 := sumAt_le (l := l.take k) (fun d hd => hR d (List.mem_of_mem_take hd)) (fun d hd => (hl d (List.mem_of_mem_take hd)).hl) hj
    unfold in64
    omega
theorem bare_ok {c : Cel} (h : CelOK c) : CelOK (bare c) := ⟨h.n, by show in128 0; decide, h.mn, h.mx, h.ce, h.po, h.hl, h.hx⟩
theorem bj_join (l : List Cel) : joinC l = ⟨(bj l).n, sumS l, (bj l).mn, (bj l).mx, (bj l).ce, (bj l).po, (bj l).h⟩ := rfl
theorem bj_nil : bj [] = zC := by decide +kernel
end Go.Proofs.YtbjmdnemeidpjaaGreat
/- The document's Right of a cell. -/
namespace Go.Proofs.YtbjmdnemeidpjaaGreat
set_option linter.unusedSimpArgs false
set_option linter.unusedVariables false
open Go.RowKit
set_option maxRecDepth 100000
theorem l26 : (tiOf Tryz.prog 38).len = 65 := by kernel_rfl
theorem right_no4 {c : Cel} (h0 : 0 < c.n) {b : Nat} (hb : b < 65) (h1 : 0 < hAt c.h b) (h2 : b < bkt c.mn ∨ bkt c.mx < b) : rightC c = false := by
  rw [← Bool.not_eq_true]
  intro q
  have := (right_iff.1 q).all (by omega) b hb (by omega)
  omega
theorem right_no5 {c : Cel} {b : Nat} (hl : c.h.length = 65) (hb : b < 65) (h1 : hAt c.h b < 0) : rightC c = false := by
  refine right_no2 ?_
  rw [← Bool.not_eq_true]
  intro q
  have := okH_at q b
  unfold hAt at h1
  omega
theorem cmpZ_zero {x y : Int} : (cmpZ x y != 0) = !decide (x = y) := by
  unfold cmpZ
  by_cases h : x = y
  · rw [if_pos h, decide_eq_true h]; rfl
  · rw [if_neg h, decide_eq_false h]
    split <;> rfl
theorem no_cmp {x y : Int} (h : x = y) (q : (cmpZ x y != 0) = true) : False := by rw [cmpZ_zero, decide_eq_true h] at q; exact Bool.noConfusion q
theorem no_cmp2 {x y : Int} (h : ¬ x = y) (q : (cmpZ x y != 0) = false) : False := by rw [cmpZ_zero, decide_eq_false h] at q; exact Bool.noConfusion q
theorem and_t {a b : Bool} (h : a = true) (h' : b = true) : (a && b) = true := by rw [h, h']; rfl
theorem and_f1 {a b : Bool} (h : a = false) : (a && b) = false := by rw [h]; rfl
theorem and_f2 {a b : Bool} (h : b = false) : (a && b) = false := by rw [h, Bool.and_false]
set_option maxHeartbeats 16000000 in
theorem refRight_sat_c (c : Cel) (hc : CelOK c) : Sat Tryz.prog 44 [.d (cD c)] [] (bA (rightC c)) [] := by
  have hl := hc.hl
  have hx := hc.hx
  have b1 := refBucket_sat c.mn hc.mn
  have b2 := refBucket_sat c.mx hc.mx
  have k1 := bkt_lt c.mn hc.mn.2
  have k2 := bkt_lt c.mx hc.mx.2
  refine sat_of_vc (T := tiOf Tryz.prog) (E := E0) Tryz.func44 rfl rfl hE0 hm0 rfl ?_
  conv => whnf
  by_cases h0 : 0 ≤ c.n ∧ 0 ≤ c.ce ∧ 0 ≤ c.po ∧ c.mn ≤ c.mx
  case neg =>
    rw [right_no h0]
    iterate 2
      repeat' (first | exact True.intro | ((first | refine ⟨_, drop_id, ?_⟩ | refine ⟨_, _, at_n, ?_⟩ | refine ⟨_, _, at_hi, ?_⟩ | refine ⟨_, _, at_lo, ?_⟩ | refine ⟨_, _, at_mn, ?_⟩ | refine ⟨_, _, at_mx, ?_⟩ | refine ⟨_, _, at_ce, ?_⟩ | refine ⟨_, _, at_po, ?_⟩ | refine ⟨_, whole_z sC, clenz sC, ?_⟩ | refine ⟨_, setzC, ?_⟩ | refine And.intro (clenz sC) ?_ | refine And.intro fitzC ?_ | refine ⟨_, whole_cell sC hl, clen sC hl, ?_⟩ | refine And.intro (clen sC hl) ?_ | refine And.intro (fitC hl) ?_ | refine ⟨_, setC hl, ?_⟩ | refine ⟨_, whole_z sF, clenz sF, ?_⟩ | refine ⟨_, setzF, ?_⟩ | refine And.intro (clenz sF) ?_ | refine And.intro fitzF ?_ | refine ⟨_, whole_cell sF hl, clen sF hl, ?_⟩ | refine And.intro (clen sF hl) ?_ | refine And.intro (fitF hl) ?_ | refine ⟨_, setF hl, ?_⟩ | refine And.intro (fit1 hl (by decide)) ?_ | refine And.intro (fit1 rfl (by decide)) ?_ | refine ⟨_, sum_cell s25, rfl, ?_⟩ | refine ⟨_, set_n _, ?_⟩ | refine ⟨_, set_mn _, ?_⟩ | refine ⟨_, set_mx _, ?_⟩ | refine ⟨_, set_ce _, ?_⟩ | refine ⟨_, set_po _, ?_⟩ | refine ⟨_, set_s _, ?_⟩ | refine ⟨_, set_hi _, ?_⟩ | refine ⟨_, set_lo _, ?_⟩ | refine And.intro (fun _ => ?_) tf | refine And.intro ft (fun _ => ?_) | refine And.intro (by kernel_rfl) ?_ | refine And.intro (by decide) ?_ | refine And.intro (fun _ => ?_) (fun h => absurd h (by decide)) | refine And.intro (fun h => absurd h (by decide)) (fun _ => ?_) | fail); conv => whnf) | (refine And.intro (fun _ => ?_) (fun _ => ?_) <;> conv => whnf) | fail)
      all_goals try (refine Or.inl ?_; conv => whnf)
    all_goals try (exfalso; simp only [decide_eq_true_eq, decide_eq_false_iff_not] at *; omega)
    all_goals refine ⟨[], ?_⟩
    repeat (any_goals (first | exact True.intro | exact rfl | with_reducible_and_instances rfl | exact (by kernel_rfl) | refine And.intro ?_ ?_))
    all_goals conv => whnf
  iterate 2
    repeat' (first | exact True.intro | ((first | refine ⟨_, drop_id, ?_⟩ | refine ⟨_, _, at_n, ?_⟩ | refine ⟨_, _, at_hi, ?_⟩ | refine ⟨_, _, at_lo, ?_⟩ | refine ⟨_, _, at_mn, ?_⟩ | refine ⟨_, _, at_mx, ?_⟩ | refine ⟨_, _, at_ce, ?_⟩ | refine ⟨_, _, at_po, ?_⟩ | refine ⟨_, whole_z sC, clenz sC, ?_⟩ | refine ⟨_, setzC, ?_⟩ | refine And.intro (clenz sC) ?_ | refine And.intro fitzC ?_ | refine ⟨_, whole_cell sC hl, clen sC hl, ?_⟩ | refine And.intro (clen sC hl) ?_ | refine And.intro (fitC hl) ?_ | refine ⟨_, setC hl, ?_⟩ | refine ⟨_, whole_z sF, clenz sF, ?_⟩ | refine ⟨_, setzF, ?_⟩ | refine And.intro (clenz sF) ?_ | refine And.intro fitzF ?_ | refine ⟨_, whole_cell sF hl, clen sF hl, ?_⟩ | refine And.intro (clen sF hl) ?_ | refine And.intro (fitF hl) ?_ | refine ⟨_, setF hl, ?_⟩ | refine And.intro (fit1 hl (by decide)) ?_ | refine And.intro (fit1 rfl (by decide)) ?_ | refine ⟨_, sum_cell s25, rfl, ?_⟩ | refine ⟨_, set_n _, ?_⟩ | refine ⟨_, set_mn _, ?_⟩ | refine ⟨_, set_mx _, ?_⟩ | refine ⟨_, set_ce _, ?_⟩ | refine ⟨_, set_po _, ?_⟩ | refine ⟨_, set_s _, ?_⟩ | refine ⟨_, set_hi _, ?_⟩ | refine ⟨_, set_lo _, ?_⟩ | refine And.intro (fun _ => ?_) tf | refine And.intro ft (fun _ => ?_) | refine And.intro (by kernel_rfl) ?_ | refine And.intro (by decide) ?_ | refine And.intro (fun _ => ?_) (fun h => absurd h (by decide)) | refine And.intro (fun h => absurd h (by decide)) (fun _ => ?_) | fail); conv => whnf) | (refine And.intro (fun _ => ?_) (fun _ => ?_) <;> conv => whnf) | fail)
    all_goals try (refine Or.inl ?_; conv => whnf)
  all_goals try (exfalso; simp only [decide_eq_true_eq, decide_eq_false_iff_not] at *; omega)
  repeat' (first | exact True.intro | ((first | refine ⟨_, drop_id, ?_⟩ | refine ⟨_, _, at_n, ?_⟩ | refine ⟨_, _, at_hi, ?_⟩ | refine ⟨_, _, at_lo, ?_⟩ | refine ⟨_, _, at_mn, ?_⟩ | refine ⟨_, _, at_mx, ?_⟩ | refine ⟨_, _, at_ce, ?_⟩ | refine ⟨_, _, at_po, ?_⟩ | refine ⟨_, whole_z sC, clenz sC, ?_⟩ | refine ⟨_, setzC, ?_⟩ | refine And.intro (clenz sC) ?_ | refine And.intro fitzC ?_ | refine ⟨_, whole_cell sC hl, clen sC hl, ?_⟩ | refine And.intro (clen sC hl) ?_ | refine And.intro (fitC hl) ?_ | refine ⟨_, setC hl, ?_⟩ | refine ⟨_, whole_z sF, clenz sF, ?_⟩ | refine ⟨_, setzF, ?_⟩ | refine And.intro (clenz sF) ?_ | refine And.intro fitzF ?_ | refine ⟨_, whole_cell sF hl, clen sF hl, ?_⟩ | refine And.intro (clen sF hl) ?_ | refine And.intro (fitF hl) ?_ | refine ⟨_, setF hl, ?_⟩ | refine And.intro (fit1 hl (by decide)) ?_ | refine And.intro (fit1 rfl (by decide)) ?_ | refine ⟨_, sum_cell s25, rfl, ?_⟩ | refine ⟨_, set_n _, ?_⟩ | refine ⟨_, set_mn _, ?_⟩ | refine ⟨_, set_mx _, ?_⟩ | refine ⟨_, set_ce _, ?_⟩ | refine ⟨_, set_po _, ?_⟩ | refine ⟨_, set_s _, ?_⟩ | refine ⟨_, set_hi _, ?_⟩ | refine ⟨_, set_lo _, ?_⟩ | refine And.intro (fun _ => ?_) tf | refine And.intro ft (fun _ => ?_) | refine And.intro (by kernel_rfl) ?_ | refine And.intro (by decide) ?_ | refine And.intro (fun _ => ?_) (fun h => absurd h (by decide)) | refine And.intro (fun h => absurd h (by decide)) (fun _ => ?_) | fail); conv => whnf) | (refine And.intro (fun _ => ?_) (fun _ => ?_) <;> conv => whnf) | fail)
  refine ⟨Nat, fun k => k ≤ 65 ∧ ∀ b, b < k → 0 ≤ hAt c.h b ∧ (0 < c.n → 0 < hAt c.h b → bkt c.mn ≤ b ∧ b ≤ bkt c.mx), fun k => ([(4, iA k), (3, .own 1), (1, .ptr 0 0)], [.row (cR c), .sl 1 ((c.h.take k).map lR)]), fun k => 65 - k, ⟨0, ⟨by omega, fun b hb => absurd hb (by omega)⟩, ?_⟩, ?_⟩
  · all_goals refine ⟨[], ?_⟩
    repeat (any_goals (first | exact True.intro | exact rfl | with_reducible_and_instances rfl | exact (by kernel_rfl) | refine And.intro ?_ ?_))
    all_goals conv => whnf
  rintro k ⟨hk, ho⟩
  have hml : ((c.h.take k).map lR).length = k := by simp; omega
  conv => whnf
  by_cases hlt : k < 65
  · have hat := at_h hl hlt
    have hxk : c.h[k]? = some (hAt c.h k) := by unfold hAt; rw [List.getElem?_eq_getElem (by omega)]; rfl
    have hmap : AObj.sl 1 ((c.h.take k).map lR ++ [lR (hAt c.h k)]) = .sl 1 ((c.h.take (k + 1)).map lR) := congrArg (AObj.sl 1) (map_take_succ (f := lR) hxk).symm
    by_cases p1 : hAt c.h k < 0
    · rw [right_no5 hl hlt p1]
      iterate 4
        repeat' (first | exact True.intro | ((first | refine ⟨k, rfl, Nat.lt_of_lt_of_eq hlt l26.symm, ?_⟩ | refine ⟨_, _, hat, ?_⟩ | refine ⟨_, drop_id, ?_⟩ | refine ⟨_, _, at_n, ?_⟩ | refine ⟨_, _, at_hi, ?_⟩ | refine ⟨_, _, at_lo, ?_⟩ | refine ⟨_, _, at_mn, ?_⟩ | refine ⟨_, _, at_mx, ?_⟩ | refine ⟨_, _, at_ce, ?_⟩ | refine ⟨_, _, at_po, ?_⟩ | refine ⟨_, whole_z sC, clenz sC, ?_⟩ | refine ⟨_, setzC, ?_⟩ | refine And.intro (clenz sC) ?_ | refine And.intro fitzC ?_ | refine ⟨_, whole_cell sC hl, clen sC hl, ?_⟩ | refine And.intro (clen sC hl) ?_ | refine And.intro (fitC hl) ?_ | refine ⟨_, setC hl, ?_⟩ | refine ⟨_, whole_z sF, clenz sF, ?_⟩ | refine ⟨_, setzF, ?_⟩ | refine And.intro (clenz sF) ?_ | refine And.intro fitzF ?_ | refine ⟨_, whole_cell sF hl, clen sF hl, ?_⟩ | refine And.intro (clen sF hl) ?_ | refine And.intro (fitF hl) ?_ | refine ⟨_, setF hl, ?_⟩ | refine And.intro (fit1 hl (by decide)) ?_ | refine And.intro (fit1 rfl (by decide)) ?_ | refine ⟨_, sum_cell s25, rfl, ?_⟩ | refine ⟨_, set_n _, ?_⟩ | refine ⟨_, set_mn _, ?_⟩ | refine ⟨_, set_mx _, ?_⟩ | refine ⟨_, set_ce _, ?_⟩ | refine ⟨_, set_po _, ?_⟩ | refine ⟨_, set_s _, ?_⟩ | refine ⟨_, set_hi _, ?_⟩ | refine ⟨_, set_lo _, ?_⟩ | refine And.intro (fun _ => ?_) tf | refine And.intro ft (fun _ => ?_) | refine And.intro (by kernel_rfl) ?_ | refine And.intro (by decide) ?_ | refine And.intro (fun _ => ?_) (fun h => absurd h (by decide)) | refine And.intro (fun h => absurd h (by decide)) (fun _ => ?_) | refine ⟨_, _, b1.pu rfl rfl, ?_⟩ | refine ⟨_, _, b2.pu rfl rfl, ?_⟩ | fail); conv => whnf) | (refine And.intro (fun _ => ?_) (fun _ => ?_) <;> conv => whnf) | fail)
        all_goals try (exfalso; simp only [decide_eq_true_eq, decide_eq_false_iff_not, Bool.not_eq_true', Bool.not_eq_false', Bool.not_eq_true, Bool.not_eq_false, beq_iff_eq, bne_iff_ne, beq_eq_false_iff_ne, bne_eq_false_iff_eq, ne_eq, Decidable.not_not] at *; first | omega | contradiction | (simp_all; done) | (simp_all; omega))
        all_goals try (refine Or.inl ?_; conv => whnf)
      all_goals refine ⟨[], ?_⟩
      repeat (any_goals (first | exact True.intro | exact rfl | with_reducible_and_instances rfl | exact (by kernel_rfl) | refine And.intro ?_ ?_))
      all_goals conv => whnf
    by_cases p2 : 0 < c.n ∧ 0 < hAt c.h k ∧ (k < bkt c.mn ∨ bkt c.mx < k)
    · rw [right_no4 p2.1 hlt p2.2.1 p2.2.2]
      iterate 4
        repeat' (first | exact True.intro | ((first | refine ⟨k, rfl, Nat.lt_of_lt_of_eq hlt l26.symm, ?_⟩ | refine ⟨_, _, hat, ?_⟩ | refine ⟨_, drop_id, ?_⟩ | refine ⟨_, _, at_n, ?_⟩ | refine ⟨_, _, at_hi, ?_⟩ | refine ⟨_, _, at_lo, ?_⟩ | refine ⟨_, _, at_mn, ?_⟩ | refine ⟨_, _, at_mx, ?_⟩ | refine ⟨_, _, at_ce, ?_⟩ | refine ⟨_, _, at_po, ?_⟩ | refine ⟨_, whole_z sC, clenz sC, ?_⟩ | refine ⟨_, setzC, ?_⟩ | refine And.intro (clenz sC) ?_ | refine And.intro fitzC ?_ | refine ⟨_, whole_cell sC hl, clen sC hl, ?_⟩ | refine And.intro (clen sC hl) ?_ | refine And.intro (fitC hl) ?_ | refine ⟨_, setC hl, ?_⟩ | refine ⟨_, whole_z sF, clenz sF, ?_⟩ | refine ⟨_, setzF, ?_⟩ | refine And.intro (clenz sF) ?_ | refine And.intro fitzF ?_ | refine ⟨_, whole_cell sF hl, clen sF hl, ?_⟩ | refine And.intro (clen sF hl) ?_ | refine And.intro (fitF hl) ?_ | refine ⟨_, setF hl, ?_⟩ | refine And.intro (fit1 hl (by decide)) ?_ | refine And.intro (fit1 rfl (by decide)) ?_ | refine ⟨_, sum_cell s25, rfl, ?_⟩ | refine ⟨_, set_n _, ?_⟩ | refine ⟨_, set_mn _, ?_⟩ | refine ⟨_, set_mx _, ?_⟩ | refine ⟨_, set_ce _, ?_⟩ | refine ⟨_, set_po _, ?_⟩ | refine ⟨_, set_s _, ?_⟩ | refine ⟨_, set_hi _, ?_⟩ | refine ⟨_, set_lo _, ?_⟩ | refine And.intro (fun _ => ?_) tf | refine And.intro ft (fun _ => ?_) | refine And.intro (by kernel_rfl) ?_ | refine And.intro (by decide) ?_ | refine And.intro (fun _ => ?_) (fun h => absurd h (by decide)) | refine And.intro (fun h => absurd h (by decide)) (fun _ => ?_) | refine ⟨_, _, b1.pu rfl rfl, ?_⟩ | refine ⟨_, _, b2.pu rfl rfl, ?_⟩ | fail); conv => whnf) | (refine And.intro (fun _ => ?_) (fun _ => ?_) <;> conv => whnf) | fail)
        all_goals try (exfalso; simp only [decide_eq_true_eq, decide_eq_false_iff_not, Bool.not_eq_true', Bool.not_eq_false', Bool.not_eq_true, Bool.not_eq_false, beq_iff_eq, bne_iff_ne, beq_eq_false_iff_ne, bne_eq_false_iff_eq, ne_eq, Decidable.not_not] at *; first | omega | contradiction | (simp_all; done) | (simp_all; omega))
        all_goals try (refine Or.inl ?_; conv => whnf)
      all_goals refine ⟨[], ?_⟩
      repeat (any_goals (first | exact True.intro | exact rfl | with_reducible_and_instances rfl | exact (by kernel_rfl) | refine And.intro ?_ ?_))
      all_goals conv => whnf
    iterate 5
      repeat' (first | exact True.intro | ((first | refine ⟨k, rfl, Nat.lt_of_lt_of_eq hlt l26.symm, ?_⟩ | refine ⟨_, _, hat, ?_⟩ | refine ⟨_, drop_id, ?_⟩ | refine ⟨_, _, at_n, ?_⟩ | refine ⟨_, _, at_hi, ?_⟩ | refine ⟨_, _, at_lo, ?_⟩ | refine ⟨_, _, at_mn, ?_⟩ | refine ⟨_, _, at_mx, ?_⟩ | refine ⟨_, _, at_ce, ?_⟩ | refine ⟨_, _, at_po, ?_⟩ | refine ⟨_, whole_z sC, clenz sC, ?_⟩ | refine ⟨_, setzC, ?_⟩ | refine And.intro (clenz sC) ?_ | refine And.intro fitzC ?_ | refine ⟨_, whole_cell sC hl, clen sC hl, ?_⟩ | refine And.intro (clen sC hl) ?_ | refine And.intro (fitC hl) ?_ | refine ⟨_, setC hl, ?_⟩ | refine ⟨_, whole_z sF, clenz sF, ?_⟩ | refine ⟨_, setzF, ?_⟩ | refine And.intro (clenz sF) ?_ | refine And.intro fitzF ?_ | refine ⟨_, whole_cell sF hl, clen sF hl, ?_⟩ | refine And.intro (clen sF hl) ?_ | refine And.intro (fitF hl) ?_ | refine ⟨_, setF hl, ?_⟩ | refine And.intro (fit1 hl (by decide)) ?_ | refine And.intro (fit1 rfl (by decide)) ?_ | refine ⟨_, sum_cell s25, rfl, ?_⟩ | refine ⟨_, set_n _, ?_⟩ | refine ⟨_, set_mn _, ?_⟩ | refine ⟨_, set_mx _, ?_⟩ | refine ⟨_, set_ce _, ?_⟩ | refine ⟨_, set_po _, ?_⟩ | refine ⟨_, set_s _, ?_⟩ | refine ⟨_, set_hi _, ?_⟩ | refine ⟨_, set_lo _, ?_⟩ | refine And.intro (fun _ => ?_) tf | refine And.intro ft (fun _ => ?_) | refine And.intro (by kernel_rfl) ?_ | refine And.intro (by decide) ?_ | refine And.intro (fun _ => ?_) (fun h => absurd h (by decide)) | refine And.intro (fun h => absurd h (by decide)) (fun _ => ?_) | refine ⟨_, _, b1.pu rfl rfl, ?_⟩ | refine ⟨_, _, b2.pu rfl rfl, ?_⟩ | refine ⟨_, _, ap 1 8 (by kernel_rfl) rfl rfl (by simp [hml]; omega), ?_⟩ | fail); conv => whnf) | (refine And.intro (fun _ => ?_) (fun _ => ?_) <;> conv => whnf) | fail)
      all_goals try (exfalso; simp only [decide_eq_true_eq, decide_eq_false_iff_not, Bool.not_eq_true', Bool.not_eq_false', Bool.not_eq_true, Bool.not_eq_false, beq_iff_eq, bne_iff_ne, beq_eq_false_iff_ne, bne_eq_false_iff_eq, ne_eq, Decidable.not_not] at *; first | omega | contradiction | (simp_all; done) | (simp_all; omega))
      all_goals try (refine Or.inl ?_; conv => whnf)
    all_goals refine ⟨k + 1, ⟨hlt, fun b hb => ?_⟩, show 65 - (k + 1) < 65 - k by omega, ?_⟩
    all_goals first
      | (by_cases e : b = k
         · subst e; omega
         · exact ho b (by omega))
      | skip
    all_goals refine ⟨[(1, 3)], ?_⟩
    repeat (any_goals (first | exact True.intro | exact rfl | with_reducible_and_instances rfl | exact (by kernel_rfl) | refine And.intro ?_ ?_))
    all_goals conv => whnf
    all_goals first
      | exact wk1 (by omega)
      | exact hmap
  · have hke : k = 65 := by omega
    subst hke
    rw [List.take_of_length_le (by omega)] at hml
    have hok : okH c.h = true := by
      unfold okH
      refine List.all_eq_true.2 fun x hx => decide_eq_true ?_
      obtain ⟨b, hb, rfl⟩ := List.mem_iff_getElem.1 hx
      have := (ho b (by omega)).1
      unfold hAt at this
      rw [List.getElem?_eq_getElem hb] at this
      exact this
    have t1 := total_num c.h hx (by omega)
    have e1 : D.sl 1 ((c.h.take 65).map lR) = lD c.h := by rw [List.take_of_length_le (by omega)]
    have e2 : (c.h.take 65).map lR = c.h.map lR := by rw [List.take_of_length_le (by omega)]
    rw [show lD c.h = .sl 1 ((c.h.take 65).map lR) from e1.symm] at t1
    have o1 := of_num c.n hc.n
    have m1 := cmp_num (k := 5) (by omega) (few_sum5 hx (by omega)) (few_mono (few_i64 hc.n) (by omega))
    by_cases h3 : c.h.sum = c.n
    case neg =>
      rw [right_no3 h3]
      iterate 5
        repeat' (first | exact True.intro | ((first | refine ⟨_, drop_id, ?_⟩ | refine ⟨_, _, at_n, ?_⟩ | refine ⟨_, _, at_hi, ?_⟩ | refine ⟨_, _, at_lo, ?_⟩ | refine ⟨_, _, at_mn, ?_⟩ | refine ⟨_, _, at_mx, ?_⟩ | refine ⟨_, _, at_ce, ?_⟩ | refine ⟨_, _, at_po, ?_⟩ | refine ⟨_, whole_z sC, clenz sC, ?_⟩ | refine ⟨_, setzC, ?_⟩ | refine And.intro (clenz sC) ?_ | refine And.intro fitzC ?_ | refine ⟨_, whole_cell sC hl, clen sC hl, ?_⟩ | refine And.intro (clen sC hl) ?_ | refine And.intro (fitC hl) ?_ | refine ⟨_, setC hl, ?_⟩ | refine ⟨_, whole_z sF, clenz sF, ?_⟩ | refine ⟨_, setzF, ?_⟩ | refine And.intro (clenz sF) ?_ | refine And.intro fitzF ?_ | refine ⟨_, whole_cell sF hl, clen sF hl, ?_⟩ | refine And.intro (clen sF hl) ?_ | refine And.intro (fitF hl) ?_ | refine ⟨_, setF hl, ?_⟩ | refine And.intro (fit1 hl (by decide)) ?_ | refine And.intro (fit1 rfl (by decide)) ?_ | refine ⟨_, sum_cell s25, rfl, ?_⟩ | refine ⟨_, set_n _, ?_⟩ | refine ⟨_, set_mn _, ?_⟩ | refine ⟨_, set_mx _, ?_⟩ | refine ⟨_, set_ce _, ?_⟩ | refine ⟨_, set_po _, ?_⟩ | refine ⟨_, set_s _, ?_⟩ | refine ⟨_, set_hi _, ?_⟩ | refine ⟨_, set_lo _, ?_⟩ | refine And.intro (fun _ => ?_) tf | refine And.intro ft (fun _ => ?_) | refine And.intro (by kernel_rfl) ?_ | refine And.intro (by decide) ?_ | refine And.intro (fun _ => ?_) (fun h => absurd h (by decide)) | refine And.intro (fun h => absurd h (by decide)) (fun _ => ?_) | refine ⟨_, _, frz_a t1 rfl rfl, ?_⟩ | refine ⟨_, _, o1.pu rfl rfl, ?_⟩ | refine ⟨_, _, m1.pu rfl rfl, ?_⟩ | fail); conv => whnf) | (refine And.intro (fun _ => ?_) (fun _ => ?_) <;> conv => whnf) | fail)
        all_goals try (refine Or.inl ?_; conv => whnf)
      all_goals try exact (no_cmp2 h3 ‹_›).elim
      all_goals refine ⟨[], ?_⟩
      repeat (any_goals (first | exact True.intro | exact rfl | with_reducible_and_instances rfl | exact (by kernel_rfl) | refine And.intro ?_ ?_))
      all_goals conv => whnf
    by_cases h4 : c.n = 0
    · rw [right_zero h0 hok h3 h4]
      iterate 6
        repeat' (first | exact True.intro | ((first | refine ⟨_, drop_id, ?_⟩ | refine ⟨_, _, at_n, ?_⟩ | refine ⟨_, _, at_hi, ?_⟩ | refine ⟨_, _, at_lo, ?_⟩ | refine ⟨_, _, at_mn, ?_⟩ | refine ⟨_, _, at_mx, ?_⟩ | refine ⟨_, _, at_ce, ?_⟩ | refine ⟨_, _, at_po, ?_⟩ | refine ⟨_, whole_z sC, clenz sC, ?_⟩ | refine ⟨_, setzC, ?_⟩ | refine And.intro (clenz sC) ?_ | refine And.intro fitzC ?_ | refine ⟨_, whole_cell sC hl, clen sC hl, ?_⟩ | refine And.intro (clen sC hl) ?_ | refine And.intro (fitC hl) ?_ | refine ⟨_, setC hl, ?_⟩ | refine ⟨_, whole_z sF, clenz sF, ?_⟩ | refine ⟨_, setzF, ?_⟩ | refine And.intro (clenz sF) ?_ | refine And.intro fitzF ?_ | refine ⟨_, whole_cell sF hl, clen sF hl, ?_⟩ | refine And.intro (clen sF hl) ?_ | refine And.intro (fitF hl) ?_ | refine ⟨_, setF hl, ?_⟩ | refine And.intro (fit1 hl (by decide)) ?_ | refine And.intro (fit1 rfl (by decide)) ?_ | refine ⟨_, sum_cell s25, rfl, ?_⟩ | refine ⟨_, set_n _, ?_⟩ | refine ⟨_, set_mn _, ?_⟩ | refine ⟨_, set_mx _, ?_⟩ | refine ⟨_, set_ce _, ?_⟩ | refine ⟨_, set_po _, ?_⟩ | refine ⟨_, set_s _, ?_⟩ | refine ⟨_, set_hi _, ?_⟩ | refine ⟨_, set_lo _, ?_⟩ | refine And.intro (fun _ => ?_) tf | refine And.intro ft (fun _ => ?_) | refine And.intro (by kernel_rfl) ?_ | refine And.intro (by decide) ?_ | refine And.intro (fun _ => ?_) (fun h => absurd h (by decide)) | refine And.intro (fun h => absurd h (by decide)) (fun _ => ?_) | refine ⟨_, _, frz_a t1 rfl rfl, ?_⟩ | refine ⟨_, _, o1.pu rfl rfl, ?_⟩ | refine ⟨_, _, m1.pu rfl rfl, ?_⟩ | fail); conv => whnf) | (refine And.intro (fun _ => ?_) (fun _ => ?_) <;> conv => whnf) | fail)
        all_goals try (exfalso; simp only [decide_eq_true_eq, decide_eq_false_iff_not, Bool.not_eq_true', Bool.not_eq_false', Bool.not_eq_true, Bool.not_eq_false, beq_iff_eq, bne_iff_ne, beq_eq_false_iff_ne, bne_eq_false_iff_eq, ne_eq, Decidable.not_not] at *; first | omega | contradiction | (simp_all; done) | (simp_all; omega))
        all_goals try (refine Or.inl ?_; conv => whnf)
      all_goals try exact (no_cmp h3 ‹_›).elim
      · rw [zz1 (c := c) (and_t ‹(hiZ c.s == 0) = true› ‹(loZ c.s == 0) = true›) ‹_›]
        all_goals refine ⟨[], ?_⟩
        repeat (any_goals (first | exact True.intro | exact rfl | with_reducible_and_instances rfl | exact (by kernel_rfl) | refine And.intro ?_ ?_))
        all_goals conv => whnf
      · rw [zz2 ‹_›]
        all_goals refine ⟨[], ?_⟩
        repeat (any_goals (first | exact True.intro | exact rfl | with_reducible_and_instances rfl | exact (by kernel_rfl) | refine And.intro ?_ ?_))
        all_goals conv => whnf
      · rw [zz3 (c := c) (and_f2 ‹(loZ c.s == 0) = false›)]
        all_goals refine ⟨[], ?_⟩
        repeat (any_goals (first | exact True.intro | exact rfl | with_reducible_and_instances rfl | exact (by kernel_rfl) | refine And.intro ?_ ?_))
        all_goals conv => whnf
      · rw [zz3 (c := c) (and_f1 ‹(hiZ c.s == 0) = false›)]
        all_goals refine ⟨[], ?_⟩
        repeat (any_goals (first | exact True.intro | exact rfl | with_reducible_and_instances rfl | exact (by kernel_rfl) | refine And.intro ?_ ?_))
        all_goals conv => whnf
    · have hn : 0 < c.n := by omega
      have hin : inB c = true := inB_yes fun b hb hne => (ho b hb).2 hn (by have := (ho b hb).1; omega)
      rw [right_some h0 hok h3 h4, hin, Bool.and_true]
      have p1 := (ho _ k1).1
      have p2 := (ho _ k2).1
      iterate 6
        repeat' (first | exact True.intro | ((first | refine ⟨bkt c.mn, rfl, Nat.lt_of_lt_of_eq k1 l26.symm, ?_⟩ | refine ⟨bkt c.mx, rfl, Nat.lt_of_lt_of_eq k2 l26.symm, ?_⟩ | refine ⟨_, _, at_h hl k1, ?_⟩ | refine ⟨_, _, at_h hl k2, ?_⟩ | refine ⟨_, drop_id, ?_⟩ | refine ⟨_, _, at_n, ?_⟩ | refine ⟨_, _, at_hi, ?_⟩ | refine ⟨_, _, at_lo, ?_⟩ | refine ⟨_, _, at_mn, ?_⟩ | refine ⟨_, _, at_mx, ?_⟩ | refine ⟨_, _, at_ce, ?_⟩ | refine ⟨_, _, at_po, ?_⟩ | refine ⟨_, whole_z sC, clenz sC, ?_⟩ | refine ⟨_, setzC, ?_⟩ | refine And.intro (clenz sC) ?_ | refine And.intro fitzC ?_ | refine ⟨_, whole_cell sC hl, clen sC hl, ?_⟩ | refine And.intro (clen sC hl) ?_ | refine And.intro (fitC hl) ?_ | refine ⟨_, setC hl, ?_⟩ | refine ⟨_, whole_z sF, clenz sF, ?_⟩ | refine ⟨_, setzF, ?_⟩ | refine And.intro (clenz sF) ?_ | refine And.intro fitzF ?_ | refine ⟨_, whole_cell sF hl, clen sF hl, ?_⟩ | refine And.intro (clen sF hl) ?_ | refine And.intro (fitF hl) ?_ | refine ⟨_, setF hl, ?_⟩ | refine And.intro (fit1 hl (by decide)) ?_ | refine And.intro (fit1 rfl (by decide)) ?_ | refine ⟨_, sum_cell s25, rfl, ?_⟩ | refine ⟨_, set_n _, ?_⟩ | refine ⟨_, set_mn _, ?_⟩ | refine ⟨_, set_mx _, ?_⟩ | refine ⟨_, set_ce _, ?_⟩ | refine ⟨_, set_po _, ?_⟩ | refine ⟨_, set_s _, ?_⟩ | refine ⟨_, set_hi _, ?_⟩ | refine ⟨_, set_lo _, ?_⟩ | refine And.intro (fun _ => ?_) tf | refine And.intro ft (fun _ => ?_) | refine And.intro (by kernel_rfl) ?_ | refine And.intro (by decide) ?_ | refine And.intro (fun _ => ?_) (fun h => absurd h (by decide)) | refine And.intro (fun h => absurd h (by decide)) (fun _ => ?_) | refine ⟨_, _, frz_a t1 rfl rfl, ?_⟩ | refine ⟨_, _, o1.pu rfl rfl, ?_⟩ | refine ⟨_, _, m1.pu rfl rfl, ?_⟩ | refine ⟨_, _, b1.pu rfl rfl, ?_⟩ | refine ⟨_, _, b2.pu rfl rfl, ?_⟩ | fail); conv => whnf) | (refine And.intro (fun _ => ?_) (fun _ => ?_) <;> conv => whnf) | fail)
        all_goals try (exfalso; simp only [decide_eq_true_eq, decide_eq_false_iff_not, Bool.not_eq_true', Bool.not_eq_false', Bool.not_eq_true, Bool.not_eq_false, beq_iff_eq, bne_iff_ne, beq_eq_false_iff_ne, bne_eq_false_iff_eq, ne_eq, Decidable.not_not] at *; first | omega | contradiction | (simp_all; done) | (simp_all; omega))
        all_goals try (refine Or.inl ?_; conv => whnf)
      all_goals try exact (no_cmp h3 ‹_›).elim
      · have p3 := of_decide_eq_true ‹decide (hAt c.h (bkt c.mn) > 0) = true›
        have e : decide (hAt c.h (bkt c.mn) ≠ 0 ∧ hAt c.h (bkt c.mx) ≠ 0) = decide (hAt c.h (bkt c.mx) > 0) := by
          rw [Bool.eq_iff_iff, decide_eq_true_eq, decide_eq_true_eq]; omega
        rw [e]
        all_goals refine ⟨[], ?_⟩
        repeat (any_goals (first | exact True.intro | exact rfl | with_reducible_and_instances rfl | exact (by kernel_rfl) | refine And.intro ?_ ?_))
        all_goals conv => whnf
      · have p3 := of_decide_eq_false ‹decide (hAt c.h (bkt c.mn) > 0) = false›
        rw [decide_eq_false (p := hAt c.h (bkt c.mn) ≠ 0 ∧ hAt c.h (bkt c.mx) ≠ 0) (by omega)]
        all_goals refine ⟨[], ?_⟩
        repeat (any_goals (first | exact True.intro | exact rfl | with_reducible_and_instances rfl | exact (by kernel_rfl) | refine And.intro ?_ ?_))
        all_goals conv => whnf
end Go.Proofs.YtbjmdnemeidpjaaGreat
/- The document's Merge and Note. -/
namespace Go.Proofs.YtbjmdnemeidpjaaGreat
set_option linter.unusedSimpArgs false
set_option linter.unusedVariables false
open Go.RowKit
set_option maxRecDepth 100000
set_option maxHeartbeats 16000000 in
theorem refMerge_sat_c (l : List Cel) (hl : ∀ c ∈ l, CelOK c) (hn : l.length ≤ 1000) : Sat Tryz.prog 42 [.d (.sl 72 (l.map cR))] [] (.tup [.d (cD (mergeC l).1), iA (mergeC l).2]) [] := by
  have hm : (l.map cR).length = l.length := List.length_map _
  refine sat_of_vc (T := tiOf Tryz.prog) (E := E0) Tryz.func42 rfl rfl hE0 hm0 rfl ?_
  conv => whnf
  iterate 2
    repeat' (first | exact True.intro | ((first | refine ⟨_, drop_id, ?_⟩ | refine ⟨_, _, at_n, ?_⟩ | refine ⟨_, _, at_hi, ?_⟩ | refine ⟨_, _, at_lo, ?_⟩ | refine ⟨_, _, at_mn, ?_⟩ | refine ⟨_, _, at_mx, ?_⟩ | refine ⟨_, _, at_ce, ?_⟩ | refine ⟨_, _, at_po, ?_⟩ | refine ⟨_, whole_z sC, clenz sC, ?_⟩ | refine ⟨_, setzC, ?_⟩ | refine And.intro (clenz sC) ?_ | refine And.intro fitzC ?_ | refine ⟨_, whole_z sF, clenz sF, ?_⟩ | refine ⟨_, setzF, ?_⟩ | refine And.intro (clenz sF) ?_ | refine And.intro fitzF ?_ | refine And.intro (fit1 rfl (by decide)) ?_ | refine ⟨_, sum_cell s25, rfl, ?_⟩ | refine ⟨_, set_n _, ?_⟩ | refine ⟨_, set_mn _, ?_⟩ | refine ⟨_, set_mx _, ?_⟩ | refine ⟨_, set_ce _, ?_⟩ | refine ⟨_, set_po _, ?_⟩ | refine ⟨_, set_s _, ?_⟩ | refine ⟨_, set_hi _, ?_⟩ | refine ⟨_, set_lo _, ?_⟩ | refine And.intro (fun _ => ?_) tf | refine And.intro ft (fun _ => ?_) | refine And.intro (by kernel_rfl) ?_ | refine And.intro (by decide) ?_ | refine And.intro (fun _ => ?_) (fun h => absurd h (by decide)) | refine And.intro (fun h => absurd h (by decide)) (fun _ => ?_) | fail); conv => whnf) | (refine And.intro (fun _ => ?_) (fun _ => ?_) <;> conv => whnf) | fail)
    all_goals try (refine Or.inl ?_; conv => whnf)
  refine ⟨Nat, fun k => k ≤ l.length ∧ (l.take k).all rightC = true, fun k => ([(4, iA k), (2, .ptr 0 0), (0, .d (.sl 72 (l.map cR)))], [.row (cR zC)]), fun k => l.length - k, ⟨0, ⟨Nat.zero_le _, rfl⟩, ?_⟩, ?_⟩
  · all_goals refine ⟨[], ?_⟩
    repeat (any_goals (first | exact True.intro | exact rfl | with_reducible_and_instances rfl | exact (by kernel_rfl) | refine And.intro ?_ ?_))
    all_goals conv => whnf
  rintro k ⟨hk, hr⟩
  conv => whnf
  by_cases hlt : k < l.length
  · have hx : l[k]? = some l[k] := List.getElem?_eq_getElem hlt
    have hc := hl _ (List.getElem_mem hlt)
    have ha := all_take_right hx
    generalize l[k] = c at hx hc ha
    have hcl := hc.hl
    have r1 := refRight_sat_c c hc
    by_cases q : rightC c = true
    · rw [q] at r1 ha
      iterate 4
        repeat' (first | exact True.intro | ((first | refine ⟨k, _, rfl, map_get hx, ?_⟩ | refine ⟨_, drop_id, ?_⟩ | refine ⟨_, _, at_n, ?_⟩ | refine ⟨_, _, at_hi, ?_⟩ | refine ⟨_, _, at_lo, ?_⟩ | refine ⟨_, _, at_mn, ?_⟩ | refine ⟨_, _, at_mx, ?_⟩ | refine ⟨_, _, at_ce, ?_⟩ | refine ⟨_, _, at_po, ?_⟩ | refine ⟨_, whole_z sC, clenz sC, ?_⟩ | refine ⟨_, setzC, ?_⟩ | refine And.intro (clenz sC) ?_ | refine And.intro fitzC ?_ | refine ⟨_, whole_cell sC hcl, clen sC hcl, ?_⟩ | refine And.intro (clen sC hcl) ?_ | refine And.intro (fitC hcl) ?_ | refine ⟨_, setC hcl, ?_⟩ | refine ⟨_, whole_z sF, clenz sF, ?_⟩ | refine ⟨_, setzF, ?_⟩ | refine And.intro (clenz sF) ?_ | refine And.intro fitzF ?_ | refine ⟨_, whole_cell sF hcl, clen sF hcl, ?_⟩ | refine And.intro (clen sF hcl) ?_ | refine And.intro (fitF hcl) ?_ | refine ⟨_, setF hcl, ?_⟩ | refine And.intro (fit1 hcl (by decide)) ?_ | refine And.intro (fit1 rfl (by decide)) ?_ | refine ⟨_, sum_cell s25, rfl, ?_⟩ | refine ⟨_, set_n _, ?_⟩ | refine ⟨_, set_mn _, ?_⟩ | refine ⟨_, set_mx _, ?_⟩ | refine ⟨_, set_ce _, ?_⟩ | refine ⟨_, set_po _, ?_⟩ | refine ⟨_, set_s _, ?_⟩ | refine ⟨_, set_hi _, ?_⟩ | refine ⟨_, set_lo _, ?_⟩ | refine And.intro (fun _ => ?_) tf | refine And.intro ft (fun _ => ?_) | refine And.intro (by kernel_rfl) ?_ | refine And.intro (by decide) ?_ | refine And.intro (fun _ => ?_) (fun h => absurd h (by decide)) | refine And.intro (fun h => absurd h (by decide)) (fun _ => ?_) | refine ⟨_, _, r1.pu rfl rfl, ?_⟩ | fail); conv => whnf) | (refine And.intro (fun _ => ?_) (fun _ => ?_) <;> conv => whnf) | fail)
        all_goals try (refine Or.inl ?_; conv => whnf)
      all_goals try exact (noGe hlt ‹_›).elim
      all_goals try (exfalso; simp only [decide_eq_true_eq, decide_eq_false_iff_not, Bool.not_eq_true', Bool.not_eq_false', Bool.not_eq_true, Bool.not_eq_false, beq_iff_eq, bne_iff_ne, beq_eq_false_iff_ne, bne_eq_false_iff_eq, ne_eq, Decidable.not_not] at *; first | omega | contradiction | (simp_all; done) | (simp_all; omega))
      refine ⟨k + 1, ⟨hlt, by rw [ha, hr]; rfl⟩, show l.length - (k + 1) < l.length - k by omega, ?_⟩
      all_goals refine ⟨[], ?_⟩
      repeat (any_goals (first | exact True.intro | exact rfl | with_reducible_and_instances rfl | exact (by kernel_rfl) | refine And.intro ?_ ?_))
      all_goals conv => whnf
      exact wk1 (by omega)
    · have q : rightC c = false := by simpa using q
      rw [q] at r1
      have hall : l.all rightC = false := by
        rw [← List.take_append_drop (k + 1) l, List.all_append, ha, q, Bool.and_false, Bool.false_and]
      have e : mergeC l = (zC, 10) := by unfold mergeC; rw [if_pos hall]
      iterate 4
        repeat' (first | exact True.intro | ((first | refine ⟨k, _, rfl, map_get hx, ?_⟩ | refine ⟨_, drop_id, ?_⟩ | refine ⟨_, _, at_n, ?_⟩ | refine ⟨_, _, at_hi, ?_⟩ | refine ⟨_, _, at_lo, ?_⟩ | refine ⟨_, _, at_mn, ?_⟩ | refine ⟨_, _, at_mx, ?_⟩ | refine ⟨_, _, at_ce, ?_⟩ | refine ⟨_, _, at_po, ?_⟩ | refine ⟨_, whole_z sC, clenz sC, ?_⟩ | refine ⟨_, setzC, ?_⟩ | refine And.intro (clenz sC) ?_ | refine And.intro fitzC ?_ | refine ⟨_, whole_cell sC hcl, clen sC hcl, ?_⟩ | refine And.intro (clen sC hcl) ?_ | refine And.intro (fitC hcl) ?_ | refine ⟨_, setC hcl, ?_⟩ | refine ⟨_, whole_z sF, clenz sF, ?_⟩ | refine ⟨_, setzF, ?_⟩ | refine And.intro (clenz sF) ?_ | refine And.intro fitzF ?_ | refine ⟨_, whole_cell sF hcl, clen sF hcl, ?_⟩ | refine And.intro (clen sF hcl) ?_ | refine And.intro (fitF hcl) ?_ | refine ⟨_, setF hcl, ?_⟩ | refine And.intro (fit1 hcl (by decide)) ?_ | refine And.intro (fit1 rfl (by decide)) ?_ | refine ⟨_, sum_cell s25, rfl, ?_⟩ | refine ⟨_, set_n _, ?_⟩ | refine ⟨_, set_mn _, ?_⟩ | refine ⟨_, set_mx _, ?_⟩ | refine ⟨_, set_ce _, ?_⟩ | refine ⟨_, set_po _, ?_⟩ | refine ⟨_, set_s _, ?_⟩ | refine ⟨_, set_hi _, ?_⟩ | refine ⟨_, set_lo _, ?_⟩ | refine And.intro (fun _ => ?_) tf | refine And.intro ft (fun _ => ?_) | refine And.intro (by kernel_rfl) ?_ | refine And.intro (by decide) ?_ | refine And.intro (fun _ => ?_) (fun h => absurd h (by decide)) | refine And.intro (fun h => absurd h (by decide)) (fun _ => ?_) | refine ⟨_, _, r1.pu rfl rfl, ?_⟩ | fail); conv => whnf) | (refine And.intro (fun _ => ?_) (fun _ => ?_) <;> conv => whnf) | fail)
        all_goals try (refine Or.inl ?_; conv => whnf)
      all_goals try exact (noGe hlt ‹_›).elim
      all_goals try (exfalso; simp only [decide_eq_true_eq, decide_eq_false_iff_not, Bool.not_eq_true', Bool.not_eq_false', Bool.not_eq_true, Bool.not_eq_false, beq_iff_eq, bne_iff_ne, beq_eq_false_iff_ne, bne_eq_false_iff_eq, ne_eq, Decidable.not_not] at *; first | omega | contradiction | (simp_all; done) | (simp_all; omega))
      rw [e]
      all_goals refine ⟨[], ?_⟩
      repeat (any_goals (first | exact True.intro | exact rfl | with_reducible_and_instances rfl | exact (by kernel_rfl) | refine And.intro ?_ ?_))
      all_goals conv => whnf
  have hke : k = l.length := by omega
  subst hke
  rw [List.take_length] at hr
  have hR : ∀ c ∈ l, RightC c := fun c hc => right_iff.1 (List.all_eq_true.1 hr c hc)
  have s1 := refSums_sat l hl hR hn
  by_cases hfit : fitsC l = true
  case neg =>
    have hfit : fitsC l = false := by simpa using hfit
    rw [hfit] at s1
    have e : mergeC l = (zC, 12) := by unfold mergeC; rw [if_neg (by rw [hr]; simp), if_pos hfit]
    iterate 4
      repeat' (first | exact True.intro | ((first | refine ⟨_, drop_id, ?_⟩ | refine ⟨_, _, at_n, ?_⟩ | refine ⟨_, _, at_hi, ?_⟩ | refine ⟨_, _, at_lo, ?_⟩ | refine ⟨_, _, at_mn, ?_⟩ | refine ⟨_, _, at_mx, ?_⟩ | refine ⟨_, _, at_ce, ?_⟩ | refine ⟨_, _, at_po, ?_⟩ | refine ⟨_, whole_z sC, clenz sC, ?_⟩ | refine ⟨_, setzC, ?_⟩ | refine And.intro (clenz sC) ?_ | refine And.intro fitzC ?_ | refine ⟨_, whole_z sF, clenz sF, ?_⟩ | refine ⟨_, setzF, ?_⟩ | refine And.intro (clenz sF) ?_ | refine And.intro fitzF ?_ | refine And.intro (fit1 rfl (by decide)) ?_ | refine ⟨_, sum_cell s25, rfl, ?_⟩ | refine ⟨_, set_n _, ?_⟩ | refine ⟨_, set_mn _, ?_⟩ | refine ⟨_, set_mx _, ?_⟩ | refine ⟨_, set_ce _, ?_⟩ | refine ⟨_, set_po _, ?_⟩ | refine ⟨_, set_s _, ?_⟩ | refine ⟨_, set_hi _, ?_⟩ | refine ⟨_, set_lo _, ?_⟩ | refine And.intro (fun _ => ?_) tf | refine And.intro ft (fun _ => ?_) | refine And.intro (by kernel_rfl) ?_ | refine And.intro (by decide) ?_ | refine And.intro (fun _ => ?_) (fun h => absurd h (by decide)) | refine And.intro (fun h => absurd h (by decide)) (fun _ => ?_) | refine ⟨_, _, s1.pu rfl rfl, ?_⟩ | fail); conv => whnf) | (refine And.intro (fun _ => ?_) (fun _ => ?_) <;> conv => whnf) | fail)
      all_goals try (refine Or.inl ?_; conv => whnf)
    all_goals try exact (noLt ‹_›).elim
    all_goals try (exfalso; simp only [decide_eq_true_eq, decide_eq_false_iff_not, Bool.not_eq_true', Bool.not_eq_false', Bool.not_eq_true, Bool.not_eq_false, beq_iff_eq, bne_iff_ne, beq_eq_false_iff_ne, bne_eq_false_iff_eq, ne_eq, Decidable.not_not] at *; first | omega | contradiction | (simp_all; done) | (simp_all; omega))
    rw [e]
    all_goals refine ⟨[], ?_⟩
    repeat (any_goals (first | exact True.intro | exact rfl | with_reducible_and_instances rfl | exact (by kernel_rfl) | refine And.intro ?_ ?_))
    all_goals conv => whnf
  rw [hfit] at s1
  have e : mergeC l = (joinC l, 0) := by unfold mergeC; rw [if_neg (by rw [hr]; simp), if_neg (by rw [hfit]; simp)]
  rw [e]
  iterate 3
    repeat' (first | exact True.intro | ((first | refine ⟨_, drop_id, ?_⟩ | refine ⟨_, _, at_n, ?_⟩ | refine ⟨_, _, at_hi, ?_⟩ | refine ⟨_, _, at_lo, ?_⟩ | refine ⟨_, _, at_mn, ?_⟩ | refine ⟨_, _, at_mx, ?_⟩ | refine ⟨_, _, at_ce, ?_⟩ | refine ⟨_, _, at_po, ?_⟩ | refine ⟨_, whole_z sC, clenz sC, ?_⟩ | refine ⟨_, setzC, ?_⟩ | refine And.intro (clenz sC) ?_ | refine And.intro fitzC ?_ | refine ⟨_, whole_z sF, clenz sF, ?_⟩ | refine ⟨_, setzF, ?_⟩ | refine And.intro (clenz sF) ?_ | refine And.intro fitzF ?_ | refine And.intro (fit1 rfl (by decide)) ?_ | refine ⟨_, sum_cell s25, rfl, ?_⟩ | refine ⟨_, set_n _, ?_⟩ | refine ⟨_, set_mn _, ?_⟩ | refine ⟨_, set_mx _, ?_⟩ | refine ⟨_, set_ce _, ?_⟩ | refine ⟨_, set_po _, ?_⟩ | refine ⟨_, set_s _, ?_⟩ | refine ⟨_, set_hi _, ?_⟩ | refine ⟨_, set_lo _, ?_⟩ | refine And.intro (fun _ => ?_) tf | refine And.intro ft (fun _ => ?_) | refine And.intro (by kernel_rfl) ?_ | refine And.intro (by decide) ?_ | refine And.intro (fun _ => ?_) (fun h => absurd h (by decide)) | refine And.intro (fun h => absurd h (by decide)) (fun _ => ?_) | refine ⟨_, _, s1.pu rfl rfl, ?_⟩ | fail); conv => whnf) | (refine And.intro (fun _ => ?_) (fun _ => ?_) <;> conv => whnf) | fail)
    all_goals try (refine Or.inl ?_; conv => whnf)
  all_goals try exact (noLt ‹_›).elim
  refine ⟨Nat × Int × List Int × Cel, fun y => y.1 ≤ l.length ∧ y.2.1 = sumS (l.take y.1) ∧ y.2.2.1 = canL y.2.1.natAbs ∧ y.2.2.2 = bj (l.take y.1), fun y => ([(7, iA y.1), (6, .ptr 2 0), (5, .ptr 1 0), (2, .ptr 0 0), (0, .d (.sl 72 (l.map cR)))], [.row (cR zC), .row (cR y.2.2.2), .cells [bA (decide (y.2.1 < 0)), .d (lD y.2.2.1)]]), fun y => l.length - y.1, ⟨(0, 0, [], zC), ⟨Nat.zero_le _, rfl, canL_zero.symm, bj_nil.symm⟩, ?_⟩, ?_⟩
  · all_goals refine ⟨[], ?_⟩
    repeat (any_goals (first | exact True.intro | exact rfl | with_reducible_and_instances rfl | exact (by kernel_rfl) | refine And.intro ?_ ?_))
    all_goals conv => whnf
  rintro ⟨k, S, d, o⟩ ⟨(hk : k ≤ l.length), (hS : S = sumS (l.take k)), (hd : d = canL S.natAbs), (ho : o = bj (l.take k))⟩
  subst hd
  have fS : few 9 S := by rw [hS]; exact few_sumS (fun c hc => hl c (List.mem_of_mem_take hc)) (by rw [List.length_take]; omega)
  have oo : CelOK o := by rw [ho]; exact bj_ok hl hR hfit k
  have lo := oo.hl
  conv => whnf
  by_cases hlt : k < l.length
  · have hx : l[k]? = some l[k] := List.getElem?_eq_getElem hlt
    have hc := hl _ (List.getElem_mem hlt)
    have hss := sumS_succ hx
    obtain ⟨j1, j2⟩ := bj_step hl hR hfit hx
    generalize l[k] = c at hx hc hss j1 j2
    rw [← hS] at hss
    rw [← ho] at j1 j2
    have hcl := hc.hl
    have bl : (bare c).h.length = 65 := hc.hl
    have w1 := wide_num (hiZ c.s) (loZ c.s) hc.s (by unfold loZ word; omega) (by unfold loZ word; omega)
    rw [wide_split] at w1
    have a1 := add_few (k := 9) (by omega) fS (few_mono (few_in128 hc.s) (by omega))
    have t1 := two_sat o (bare c) oo (bare_ok hc) j1
    rw [j2] at t1
    have o' := bj_ok hl hR hfit (k + 1)
    have lo' := o'.hl
    generalize hB : bj (l.take (k + 1)) = B at *
    iterate 4
      repeat' (first | exact True.intro | ((first | refine ⟨k, _, rfl, map_get hx, ?_⟩ | refine ⟨_, set_lo2 0, ?_⟩ | refine ⟨_, set_hi 0, ?_⟩ | refine And.intro (cell_fit lo' lo) ?_ | refine ⟨_, cell_sets lo lo', ?_⟩ | refine ⟨_, drop_id, ?_⟩ | refine ⟨_, _, at_n, ?_⟩ | refine ⟨_, _, at_hi, ?_⟩ | refine ⟨_, _, at_lo, ?_⟩ | refine ⟨_, _, at_mn, ?_⟩ | refine ⟨_, _, at_mx, ?_⟩ | refine ⟨_, _, at_ce, ?_⟩ | refine ⟨_, _, at_po, ?_⟩ | refine ⟨_, whole_z sC, clenz sC, ?_⟩ | refine ⟨_, setzC, ?_⟩ | refine And.intro (clenz sC) ?_ | refine And.intro fitzC ?_ | refine ⟨_, whole_cell sC hcl, clen sC hcl, ?_⟩ | refine And.intro (clen sC hcl) ?_ | refine And.intro (fitC hcl) ?_ | refine ⟨_, setC hcl, ?_⟩ | refine ⟨_, whole_cell sC lo, clen sC lo, ?_⟩ | refine And.intro (clen sC lo) ?_ | refine And.intro (fitC lo) ?_ | refine ⟨_, setC lo, ?_⟩ | refine ⟨_, whole_cell sC bl, clen sC bl, ?_⟩ | refine And.intro (clen sC bl) ?_ | refine And.intro (fitC bl) ?_ | refine ⟨_, setC bl, ?_⟩ | refine ⟨_, whole_cell sC lo', clen sC lo', ?_⟩ | refine And.intro (clen sC lo') ?_ | refine And.intro (fitC lo') ?_ | refine ⟨_, setC lo', ?_⟩ | refine ⟨_, whole_z sF, clenz sF, ?_⟩ | refine ⟨_, setzF, ?_⟩ | refine And.intro (clenz sF) ?_ | refine And.intro fitzF ?_ | refine ⟨_, whole_cell sF hcl, clen sF hcl, ?_⟩ | refine And.intro (clen sF hcl) ?_ | refine And.intro (fitF hcl) ?_ | refine ⟨_, setF hcl, ?_⟩ | refine ⟨_, whole_cell sF lo, clen sF lo, ?_⟩ | refine And.intro (clen sF lo) ?_ | refine And.intro (fitF lo) ?_ | refine ⟨_, setF lo, ?_⟩ | refine ⟨_, whole_cell sF bl, clen sF bl, ?_⟩ | refine And.intro (clen sF bl) ?_ | refine And.intro (fitF bl) ?_ | refine ⟨_, setF bl, ?_⟩ | refine ⟨_, whole_cell sF lo', clen sF lo', ?_⟩ | refine And.intro (clen sF lo') ?_ | refine And.intro (fitF lo') ?_ | refine ⟨_, setF lo', ?_⟩ | refine And.intro (fit1 hcl (by decide)) ?_ | refine And.intro (fit1 lo (by decide)) ?_ | refine And.intro (fit1 bl (by decide)) ?_ | refine And.intro (fit1 lo' (by decide)) ?_ | refine And.intro (fit1 rfl (by decide)) ?_ | refine ⟨_, sum_cell s25, rfl, ?_⟩ | refine ⟨_, set_n _, ?_⟩ | refine ⟨_, set_mn _, ?_⟩ | refine ⟨_, set_mx _, ?_⟩ | refine ⟨_, set_ce _, ?_⟩ | refine ⟨_, set_po _, ?_⟩ | refine ⟨_, set_s _, ?_⟩ | refine ⟨_, set_hi _, ?_⟩ | refine ⟨_, set_lo _, ?_⟩ | refine And.intro (fun _ => ?_) tf | refine And.intro ft (fun _ => ?_) | refine And.intro (by kernel_rfl) ?_ | refine And.intro (by decide) ?_ | refine And.intro (fun _ => ?_) (fun h => absurd h (by decide)) | refine And.intro (fun h => absurd h (by decide)) (fun _ => ?_) | refine ⟨_, _, w1.pu rfl rfl, ?_⟩ | refine ⟨_, _, a1.pu rfl rfl, ?_⟩ | refine ⟨_, _, t1.pu rfl rfl, ?_⟩ | fail); conv => whnf) | (refine And.intro (fun _ => ?_) (fun _ => ?_) <;> conv => whnf) | fail)
      all_goals try (refine Or.inl ?_; conv => whnf)
    all_goals try exact (noGe hlt ‹_›).elim
    all_goals try (exfalso; simp only [decide_eq_true_eq, decide_eq_false_iff_not, Bool.not_eq_true', Bool.not_eq_false', Bool.not_eq_true, Bool.not_eq_false, beq_iff_eq, bne_iff_ne, beq_eq_false_iff_ne, bne_eq_false_iff_eq, ne_eq, Decidable.not_not] at *; first | omega | contradiction | (simp_all; done) | (simp_all; omega))
    refine ⟨(k + 1, S + c.s, canL (S + c.s).natAbs, B), ⟨hlt, hss.symm, rfl, hB.symm⟩, show l.length - (k + 1) < l.length - k by omega, ?_⟩
    all_goals refine ⟨[], ?_⟩
    repeat (any_goals (first | exact True.intro | exact rfl | with_reducible_and_instances rfl | exact (by kernel_rfl) | refine And.intro ?_ ?_))
    all_goals conv => whnf
    exact wk1 (by omega)
  · have hke : k = l.length := by omega
    subst hke
    rw [List.take_length] at hS ho
    have f4 : in128 S := by
      rw [hS]
      rw [fits_iff] at hfit
      simp only [Bool.and_eq_true, decide_eq_true_eq] at hfit
      exact hfit.2
    have w3 := words_num S fS
    rw [if_pos (show in64 (hiZ S) from f4)] at w3
    rw [bj_join, ← ho, ← hS]
    iterate 4
      repeat' (first | exact True.intro | ((first | refine ⟨_, set_lo2 S, ?_⟩ | refine ⟨_, set_hi S, ?_⟩ | refine ⟨_, drop_id, ?_⟩ | refine ⟨_, _, at_n, ?_⟩ | refine ⟨_, _, at_hi, ?_⟩ | refine ⟨_, _, at_lo, ?_⟩ | refine ⟨_, _, at_mn, ?_⟩ | refine ⟨_, _, at_mx, ?_⟩ | refine ⟨_, _, at_ce, ?_⟩ | refine ⟨_, _, at_po, ?_⟩ | refine ⟨_, whole_z sC, clenz sC, ?_⟩ | refine ⟨_, setzC, ?_⟩ | refine And.intro (clenz sC) ?_ | refine And.intro fitzC ?_ | refine ⟨_, whole_cell sC lo, clen sC lo, ?_⟩ | refine And.intro (clen sC lo) ?_ | refine And.intro (fitC lo) ?_ | refine ⟨_, setC lo, ?_⟩ | refine ⟨_, whole_z sF, clenz sF, ?_⟩ | refine ⟨_, setzF, ?_⟩ | refine And.intro (clenz sF) ?_ | refine And.intro fitzF ?_ | refine ⟨_, whole_cell sF lo, clen sF lo, ?_⟩ | refine And.intro (clen sF lo) ?_ | refine And.intro (fitF lo) ?_ | refine ⟨_, setF lo, ?_⟩ | refine And.intro (fit1 lo (by decide)) ?_ | refine And.intro (fit1 rfl (by decide)) ?_ | refine ⟨_, sum_cell s25, rfl, ?_⟩ | refine ⟨_, set_n _, ?_⟩ | refine ⟨_, set_mn _, ?_⟩ | refine ⟨_, set_mx _, ?_⟩ | refine ⟨_, set_ce _, ?_⟩ | refine ⟨_, set_po _, ?_⟩ | refine ⟨_, set_s _, ?_⟩ | refine ⟨_, set_hi _, ?_⟩ | refine ⟨_, set_lo _, ?_⟩ | refine And.intro (fun _ => ?_) tf | refine And.intro ft (fun _ => ?_) | refine And.intro (by kernel_rfl) ?_ | refine And.intro (by decide) ?_ | refine And.intro (fun _ => ?_) (fun h => absurd h (by decide)) | refine And.intro (fun h => absurd h (by decide)) (fun _ => ?_) | refine ⟨_, _, w3.pu rfl rfl, ?_⟩ | fail); conv => whnf) | (refine And.intro (fun _ => ?_) (fun _ => ?_) <;> conv => whnf) | fail)
      all_goals try (refine Or.inl ?_; conv => whnf)
    all_goals try exact (noLt ‹_›).elim
    all_goals refine ⟨[], ?_⟩
    repeat (any_goals (first | exact True.intro | exact rfl | with_reducible_and_instances rfl | exact (by kernel_rfl) | refine And.intro ?_ ?_))
    all_goals conv => whnf
    show AV.d (.agg (cR ⟨o.n, wideZ (hiZ S) (loZ S), o.mn, o.mx, o.ce, o.po, o.h⟩)) = _
    rw [wide_split]
theorem mergeL_zero {h : List Int} (hl : h.length = 65) : mergeL [h, z65] = h := by
  refine ext65 (mergeL_len _) hl fun j hj => ?_
  rw [mergeL_at hj]
  have : z65[j]?.getD 0 = 0 := by unfold z65; rw [List.getElem?_replicate, if_pos hj]; rfl
  simp [sumAt, this]
def tc : Bool → Cel
  | true => ⟨0, 0, 0, 0, 1, 0, z65⟩
  | false => ⟨0, 0, 0, 0, 0, 1, z65⟩
theorem tc_ok (b : Bool) : CelOK (tc b) := by cases b <;> exact ⟨by decide, by decide, by decide, by decide, by decide, by decide, by decide, by decide⟩
theorem note_two {c : Cel} {b : Bool} (hc : CelOK c) (hr : RightC c) : (fits2 c (tc b) ↔ (if b then c.ce else c.po) ≠ big) ∧ (fits2 c (tc b) → join2 c (tc b) = (noteC c b).1) := by
  have hx : ∀ j, j < 65 → sumAt [c.h, z65] j ≤ 9223372036854775807 := fun j hj => by
    have e : sumAt [c.h, z65] j = c.h[j]?.getD 0 := by
      have := mergeL_at (ls := [c.h, z65]) hj
      rw [mergeL_zero hc.hl] at this
      exact this.symm
    rw [e, List.getElem?_eq_getElem (by rw [hc.hl]; exact hj)]
    exact (hc.hx _ (List.getElem_mem _)).2
  obtain ⟨m1, m2⟩ := merge_fine (ls := [c.h, z65]) (by rw [List.all_cons, List.all_cons, hr.ok]; decide) hx
  rw [mergeL_zero hc.hl] at m2
  have h1 := hc.ce
  have h2 := hc.po
  have h3 := hr.ce
  have h4 := hr.po
  have h5 := hc.n
  have key : fits2 c (tc b) ↔ (if b then c.ce else c.po) ≠ big := by
    unfold fits2
    cases b
    · show (in64 (c.n + 0) ∧ in64 (c.ce + 0) ∧ in64 (c.po + 1) ∧ mergeE [c.h, z65] = 0 ∧ in128 (c.s + 0)) ↔ c.po ≠ big
      rw [m1, Int.add_zero, Int.add_zero, Int.add_zero]
      have hs := hc.s
      constructor
      · rintro ⟨_, _, q, _⟩ e; unfold in64 at q; unfold big at e; omega
      · intro e; exact ⟨h5, h1, by unfold in64 at *; unfold big at e; omega, rfl, hs⟩
    · show (in64 (c.n + 0) ∧ in64 (c.ce + 1) ∧ in64 (c.po + 0) ∧ mergeE [c.h, z65] = 0 ∧ in128 (c.s + 0)) ↔ c.ce ≠ big
      rw [m1, Int.add_zero, Int.add_zero, Int.add_zero]
      have hs := hc.s
      constructor
      · rintro ⟨_, q, _, _⟩ e; unfold in64 at q; unfold big at e; omega
      · intro e; exact ⟨h5, by unfold in64 at *; unfold big at e; omega, h2, rfl, hs⟩
  refine ⟨key, fun hf => ?_⟩
  rw [noteC_fine hr (key.1 hf)]
  have e0 : (tc b).n = 0 := by cases b <;> rfl
  have e1 : (tc b).s = 0 := by cases b <;> rfl
  have e2 : (tc b).h = z65 := by cases b <;> rfl
  refine Cel.ext' (by show c.n + (tc b).n = c.n; omega) (by show c.s + (tc b).s = c.s; omega) (by show lowZ2 c (tc b) = c.mn; unfold lowZ2; rw [if_pos e0]) (by show highZ2 c (tc b) = c.mx; unfold highZ2; rw [if_pos e0]) ?_ ?_ (by show mergeR [c.h, (tc b).h] = c.h; rw [e2, m2])
  · cases b
    · show c.ce + 0 = c.ce; omega
    · rfl
  · cases b
    · rfl
    · show c.po + 0 = c.po; omega
theorem build_ce : sets (List.map D.v (tiOf Tryz.prog 49).zero) 5 [iD 1] = cR (tc true) := by rw [zeF]; rfl
theorem build_po : sets (List.map D.v (tiOf Tryz.prog 49).zero) 6 [iD 1] = cR (tc false) := by rw [zeF]; rfl
set_option maxHeartbeats 16000000 in
theorem refNote_sat (c : Cel) (b : Bool) (hc : CelOK c) : Sat Tryz.prog 41 [.d (cD c), bA b] [] (.tup [.d (cD (noteC c b).1), iA (noteC c b).2]) [] := by
  have hl := hc.hl
  have r1 := refRight_sat_c c hc
  by_cases hr : rightC c = true
  case neg =>
    have hr : rightC c = false := by simpa using hr
    have e : noteC c b = (zC, 10) := by unfold noteC; rw [if_pos hr]
    rw [e]
    rw [hr] at r1
    refine sat_of_vc (T := tiOf Tryz.prog) (E := E0) Tryz.func41 rfl rfl hE0 hm0 rfl ?_
    conv => whnf
    iterate 3
      repeat' (first | exact True.intro | ((first | refine ⟨_, drop_id, ?_⟩ | refine ⟨_, _, at_n, ?_⟩ | refine ⟨_, _, at_hi, ?_⟩ | refine ⟨_, _, at_lo, ?_⟩ | refine ⟨_, _, at_mn, ?_⟩ | refine ⟨_, _, at_mx, ?_⟩ | refine ⟨_, _, at_ce, ?_⟩ | refine ⟨_, _, at_po, ?_⟩ | refine ⟨_, whole_z sC, clenz sC, ?_⟩ | refine ⟨_, setzC, ?_⟩ | refine And.intro (clenz sC) ?_ | refine And.intro fitzC ?_ | refine ⟨_, whole_cell sC hl, clen sC hl, ?_⟩ | refine And.intro (clen sC hl) ?_ | refine And.intro (fitC hl) ?_ | refine ⟨_, setC hl, ?_⟩ | refine ⟨_, whole_z sF, clenz sF, ?_⟩ | refine ⟨_, setzF, ?_⟩ | refine And.intro (clenz sF) ?_ | refine And.intro fitzF ?_ | refine ⟨_, whole_cell sF hl, clen sF hl, ?_⟩ | refine And.intro (clen sF hl) ?_ | refine And.intro (fitF hl) ?_ | refine ⟨_, setF hl, ?_⟩ | refine And.intro (fit1 hl (by decide)) ?_ | refine And.intro (fit1 rfl (by decide)) ?_ | refine ⟨_, sum_cell s25, rfl, ?_⟩ | refine ⟨_, set_n _, ?_⟩ | refine ⟨_, set_mn _, ?_⟩ | refine ⟨_, set_mx _, ?_⟩ | refine ⟨_, set_ce _, ?_⟩ | refine ⟨_, set_po _, ?_⟩ | refine ⟨_, set_s _, ?_⟩ | refine ⟨_, set_hi _, ?_⟩ | refine ⟨_, set_lo _, ?_⟩ | refine And.intro (fun _ => ?_) tf | refine And.intro ft (fun _ => ?_) | refine And.intro (by kernel_rfl) ?_ | refine And.intro (by decide) ?_ | refine And.intro (fun _ => ?_) (fun h => absurd h (by decide)) | refine And.intro (fun h => absurd h (by decide)) (fun _ => ?_) | refine ⟨_, _, r1.pu rfl rfl, ?_⟩ | fail); conv => whnf) | (refine And.intro (fun _ => ?_) (fun _ => ?_) <;> conv => whnf) | fail)
      all_goals try (refine Or.inl ?_; conv => whnf)
    all_goals refine ⟨[], ?_⟩
    repeat (any_goals (first | exact True.intro | exact rfl | with_reducible_and_instances rfl | exact (by kernel_rfl) | refine And.intro ?_ ?_))
    all_goals conv => whnf
  have hR := right_iff.1 hr
  rw [hr] at r1
  obtain ⟨k1, k2⟩ := note_two (b := b) hc hR
  have tl : (tc b).h.length = 65 := (tc_ok b).hl
  by_cases hf : fits2 c (tc b)
  · have t1 := two_sat c (tc b) hc (tc_ok b) hf
    rw [k2 hf] at t1
    have e : noteC c b = ((noteC c b).1, 0) := by rw [noteC_fine hR (k1.1 hf)]
    have oo := noteC_ok (b := b) hc hR (k1.1 hf)
    have lo := oo.hl
    rw [e]
    generalize (noteC c b).1 = o at *
    clear k1 k2 e
    refine sat_of_vc (T := tiOf Tryz.prog) (E := E0) Tryz.func41 rfl rfl hE0 hm0 rfl ?_
    conv => whnf
    cases b
    · iterate 4
        repeat' (first | exact True.intro | ((first | refine ⟨_, build_po, ?_⟩ | refine ⟨_, drop_id, ?_⟩ | refine ⟨_, _, at_n, ?_⟩ | refine ⟨_, _, at_hi, ?_⟩ | refine ⟨_, _, at_lo, ?_⟩ | refine ⟨_, _, at_mn, ?_⟩ | refine ⟨_, _, at_mx, ?_⟩ | refine ⟨_, _, at_ce, ?_⟩ | refine ⟨_, _, at_po, ?_⟩ | refine ⟨_, whole_z sC, clenz sC, ?_⟩ | refine ⟨_, setzC, ?_⟩ | refine And.intro (clenz sC) ?_ | refine And.intro fitzC ?_ | refine ⟨_, whole_cell sC hl, clen sC hl, ?_⟩ | refine And.intro (clen sC hl) ?_ | refine And.intro (fitC hl) ?_ | refine ⟨_, setC hl, ?_⟩ | refine ⟨_, whole_cell sC tl, clen sC tl, ?_⟩ | refine And.intro (clen sC tl) ?_ | refine And.intro (fitC tl) ?_ | refine ⟨_, setC tl, ?_⟩ | refine ⟨_, whole_cell sC lo, clen sC lo, ?_⟩ | refine And.intro (clen sC lo) ?_ | refine And.intro (fitC lo) ?_ | refine ⟨_, setC lo, ?_⟩ | refine ⟨_, whole_z sF, clenz sF, ?_⟩ | refine ⟨_, setzF, ?_⟩ | refine And.intro (clenz sF) ?_ | refine And.intro fitzF ?_ | refine ⟨_, whole_cell sF hl, clen sF hl, ?_⟩ | refine And.intro (clen sF hl) ?_ | refine And.intro (fitF hl) ?_ | refine ⟨_, setF hl, ?_⟩ | refine ⟨_, whole_cell sF tl, clen sF tl, ?_⟩ | refine And.intro (clen sF tl) ?_ | refine And.intro (fitF tl) ?_ | refine ⟨_, setF tl, ?_⟩ | refine ⟨_, whole_cell sF lo, clen sF lo, ?_⟩ | refine And.intro (clen sF lo) ?_ | refine And.intro (fitF lo) ?_ | refine ⟨_, setF lo, ?_⟩ | refine And.intro (fit1 hl (by decide)) ?_ | refine And.intro (fit1 tl (by decide)) ?_ | refine And.intro (fit1 lo (by decide)) ?_ | refine And.intro (fit1 rfl (by decide)) ?_ | refine ⟨_, sum_cell s25, rfl, ?_⟩ | refine ⟨_, set_n _, ?_⟩ | refine ⟨_, set_mn _, ?_⟩ | refine ⟨_, set_mx _, ?_⟩ | refine ⟨_, set_ce _, ?_⟩ | refine ⟨_, set_po _, ?_⟩ | refine ⟨_, set_s _, ?_⟩ | refine ⟨_, set_hi _, ?_⟩ | refine ⟨_, set_lo _, ?_⟩ | refine And.intro (fun _ => ?_) tf | refine And.intro ft (fun _ => ?_) | refine And.intro (by kernel_rfl) ?_ | refine And.intro (by decide) ?_ | refine And.intro (fun _ => ?_) (fun h => absurd h (by decide)) | refine And.intro (fun h => absurd h (by decide)) (fun _ => ?_) | refine ⟨_, _, r1.pu rfl rfl, ?_⟩ | refine ⟨_, _, t1.pu rfl rfl, ?_⟩ | fail); conv => whnf) | (refine And.intro (fun _ => ?_) (fun _ => ?_) <;> conv => whnf) | fail)
        all_goals try (refine Or.inl ?_; conv => whnf)
      all_goals try (exfalso; simp only [decide_eq_true_eq, decide_eq_false_iff_not, Bool.not_eq_true', Bool.not_eq_false', Bool.not_eq_true, Bool.not_eq_false, beq_iff_eq, bne_iff_ne, beq_eq_false_iff_ne, bne_eq_false_iff_eq, ne_eq, Decidable.not_not] at *; first | omega | contradiction | (simp_all; done) | (simp_all; omega))
      all_goals refine ⟨[], ?_⟩
      repeat (any_goals (first | exact True.intro | exact rfl | with_reducible_and_instances rfl | exact (by kernel_rfl) | refine And.intro ?_ ?_))
      all_goals conv => whnf
    · iterate 4
        repeat' (first | exact True.intro | ((first | refine ⟨_, build_ce, ?_⟩ | refine ⟨_, drop_id, ?_⟩ | refine ⟨_, _, at_n, ?_⟩ | refine ⟨_, _, at_hi, ?_⟩ | refine ⟨_, _, at_lo, ?_⟩ | refine ⟨_, _, at_mn, ?_⟩ | refine ⟨_, _, at_mx, ?_⟩ | refine ⟨_, _, at_ce, ?_⟩ | refine ⟨_, _, at_po, ?_⟩ | refine ⟨_, whole_z sC, clenz sC, ?_⟩ | refine ⟨_, setzC, ?_⟩ | refine And.intro (clenz sC) ?_ | refine And.intro fitzC ?_ | refine ⟨_, whole_cell sC hl, clen sC hl, ?_⟩ | refine And.intro (clen sC hl) ?_ | refine And.intro (fitC hl) ?_ | refine ⟨_, setC hl, ?_⟩ | refine ⟨_, whole_cell sC tl, clen sC tl, ?_⟩ | refine And.intro (clen sC tl) ?_ | refine And.intro (fitC tl) ?_ | refine ⟨_, setC tl, ?_⟩ | refine ⟨_, whole_cell sC lo, clen sC lo, ?_⟩ | refine And.intro (clen sC lo) ?_ | refine And.intro (fitC lo) ?_ | refine ⟨_, setC lo, ?_⟩ | refine ⟨_, whole_z sF, clenz sF, ?_⟩ | refine ⟨_, setzF, ?_⟩ | refine And.intro (clenz sF) ?_ | refine And.intro fitzF ?_ | refine ⟨_, whole_cell sF hl, clen sF hl, ?_⟩ | refine And.intro (clen sF hl) ?_ | refine And.intro (fitF hl) ?_ | refine ⟨_, setF hl, ?_⟩ | refine ⟨_, whole_cell sF tl, clen sF tl, ?_⟩ | refine And.intro (clen sF tl) ?_ | refine And.intro (fitF tl) ?_ | refine ⟨_, setF tl, ?_⟩ | refine ⟨_, whole_cell sF lo, clen sF lo, ?_⟩ | refine And.intro (clen sF lo) ?_ | refine And.intro (fitF lo) ?_ | refine ⟨_, setF lo, ?_⟩ | refine And.intro (fit1 hl (by decide)) ?_ | refine And.intro (fit1 tl (by decide)) ?_ | refine And.intro (fit1 lo (by decide)) ?_ | refine And.intro (fit1 rfl (by decide)) ?_ | refine ⟨_, sum_cell s25, rfl, ?_⟩ | refine ⟨_, set_n _, ?_⟩ | refine ⟨_, set_mn _, ?_⟩ | refine ⟨_, set_mx _, ?_⟩ | refine ⟨_, set_ce _, ?_⟩ | refine ⟨_, set_po _, ?_⟩ | refine ⟨_, set_s _, ?_⟩ | refine ⟨_, set_hi _, ?_⟩ | refine ⟨_, set_lo _, ?_⟩ | refine And.intro (fun _ => ?_) tf | refine And.intro ft (fun _ => ?_) | refine And.intro (by kernel_rfl) ?_ | refine And.intro (by decide) ?_ | refine And.intro (fun _ => ?_) (fun h => absurd h (by decide)) | refine And.intro (fun h => absurd h (by decide)) (fun _ => ?_) | refine ⟨_, _, r1.pu rfl rfl, ?_⟩ | refine ⟨_, _, t1.pu rfl rfl, ?_⟩ | fail); conv => whnf) | (refine And.intro (fun _ => ?_) (fun _ => ?_) <;> conv => whnf) | fail)
        all_goals try (refine Or.inl ?_; conv => whnf)
      all_goals try (exfalso; simp only [decide_eq_true_eq, decide_eq_false_iff_not, Bool.not_eq_true', Bool.not_eq_false', Bool.not_eq_true, Bool.not_eq_false, beq_iff_eq, bne_iff_ne, beq_eq_false_iff_ne, bne_eq_false_iff_eq, ne_eq, Decidable.not_not] at *; first | omega | contradiction | (simp_all; done) | (simp_all; omega))
      all_goals refine ⟨[], ?_⟩
      repeat (any_goals (first | exact True.intro | exact rfl | with_reducible_and_instances rfl | exact (by kernel_rfl) | refine And.intro ?_ ?_))
      all_goals conv => whnf
  · have t1 := two_err c (tc b) hc (tc_ok b) hf
    have e : noteC c b = (zC, 12) := by
      unfold noteC
      rw [if_neg (by rw [hr]; simp), if_pos (Decidable.not_not.1 fun q => hf (k1.2 q))]
    rw [e]
    clear k1 k2 e
    refine sat_of_vc (T := tiOf Tryz.prog) (E := E0) Tryz.func41 rfl rfl hE0 hm0 rfl ?_
    conv => whnf
    cases b
    · iterate 4
        repeat' (first | exact True.intro | ((first | refine ⟨_, build_po, ?_⟩ | refine ⟨_, drop_id, ?_⟩ | refine ⟨_, _, at_n, ?_⟩ | refine ⟨_, _, at_hi, ?_⟩ | refine ⟨_, _, at_lo, ?_⟩ | refine ⟨_, _, at_mn, ?_⟩ | refine ⟨_, _, at_mx, ?_⟩ | refine ⟨_, _, at_ce, ?_⟩ | refine ⟨_, _, at_po, ?_⟩ | refine ⟨_, whole_z sC, clenz sC, ?_⟩ | refine ⟨_, setzC, ?_⟩ | refine And.intro (clenz sC) ?_ | refine And.intro fitzC ?_ | refine ⟨_, whole_cell sC hl, clen sC hl, ?_⟩ | refine And.intro (clen sC hl) ?_ | refine And.intro (fitC hl) ?_ | refine ⟨_, setC hl, ?_⟩ | refine ⟨_, whole_cell sC tl, clen sC tl, ?_⟩ | refine And.intro (clen sC tl) ?_ | refine And.intro (fitC tl) ?_ | refine ⟨_, setC tl, ?_⟩ | refine ⟨_, whole_z sF, clenz sF, ?_⟩ | refine ⟨_, setzF, ?_⟩ | refine And.intro (clenz sF) ?_ | refine And.intro fitzF ?_ | refine ⟨_, whole_cell sF hl, clen sF hl, ?_⟩ | refine And.intro (clen sF hl) ?_ | refine And.intro (fitF hl) ?_ | refine ⟨_, setF hl, ?_⟩ | refine ⟨_, whole_cell sF tl, clen sF tl, ?_⟩ | refine And.intro (clen sF tl) ?_ | refine And.intro (fitF tl) ?_ | refine ⟨_, setF tl, ?_⟩ | refine And.intro (fit1 hl (by decide)) ?_ | refine And.intro (fit1 tl (by decide)) ?_ | refine And.intro (fit1 rfl (by decide)) ?_ | refine ⟨_, sum_cell s25, rfl, ?_⟩ | refine ⟨_, set_n _, ?_⟩ | refine ⟨_, set_mn _, ?_⟩ | refine ⟨_, set_mx _, ?_⟩ | refine ⟨_, set_ce _, ?_⟩ | refine ⟨_, set_po _, ?_⟩ | refine ⟨_, set_s _, ?_⟩ | refine ⟨_, set_hi _, ?_⟩ | refine ⟨_, set_lo _, ?_⟩ | refine And.intro (fun _ => ?_) tf | refine And.intro ft (fun _ => ?_) | refine And.intro (by kernel_rfl) ?_ | refine And.intro (by decide) ?_ | refine And.intro (fun _ => ?_) (fun h => absurd h (by decide)) | refine And.intro (fun h => absurd h (by decide)) (fun _ => ?_) | refine ⟨_, _, r1.pu rfl rfl, ?_⟩ | refine ⟨_, _, t1.pu rfl rfl, ?_⟩ | fail); conv => whnf) | (refine And.intro (fun _ => ?_) (fun _ => ?_) <;> conv => whnf) | fail)
        all_goals try (refine Or.inl ?_; conv => whnf)
      all_goals try (exfalso; simp only [decide_eq_true_eq, decide_eq_false_iff_not, Bool.not_eq_true', Bool.not_eq_false', Bool.not_eq_true, Bool.not_eq_false, beq_iff_eq, bne_iff_ne, beq_eq_false_iff_ne, bne_eq_false_iff_eq, ne_eq, Decidable.not_not] at *; first | omega | contradiction | (simp_all; done) | (simp_all; omega))
      all_goals refine ⟨[], ?_⟩
      repeat (any_goals (first | exact True.intro | exact rfl | with_reducible_and_instances rfl | exact (by kernel_rfl) | refine And.intro ?_ ?_))
      all_goals conv => whnf
    · iterate 4
        repeat' (first | exact True.intro | ((first | refine ⟨_, build_ce, ?_⟩ | refine ⟨_, drop_id, ?_⟩ | refine ⟨_, _, at_n, ?_⟩ | refine ⟨_, _, at_hi, ?_⟩ | refine ⟨_, _, at_lo, ?_⟩ | refine ⟨_, _, at_mn, ?_⟩ | refine ⟨_, _, at_mx, ?_⟩ | refine ⟨_, _, at_ce, ?_⟩ | refine ⟨_, _, at_po, ?_⟩ | refine ⟨_, whole_z sC, clenz sC, ?_⟩ | refine ⟨_, setzC, ?_⟩ | refine And.intro (clenz sC) ?_ | refine And.intro fitzC ?_ | refine ⟨_, whole_cell sC hl, clen sC hl, ?_⟩ | refine And.intro (clen sC hl) ?_ | refine And.intro (fitC hl) ?_ | refine ⟨_, setC hl, ?_⟩ | refine ⟨_, whole_cell sC tl, clen sC tl, ?_⟩ | refine And.intro (clen sC tl) ?_ | refine And.intro (fitC tl) ?_ | refine ⟨_, setC tl, ?_⟩ | refine ⟨_, whole_z sF, clenz sF, ?_⟩ | refine ⟨_, setzF, ?_⟩ | refine And.intro (clenz sF) ?_ | refine And.intro fitzF ?_ | refine ⟨_, whole_cell sF hl, clen sF hl, ?_⟩ | refine And.intro (clen sF hl) ?_ | refine And.intro (fitF hl) ?_ | refine ⟨_, setF hl, ?_⟩ | refine ⟨_, whole_cell sF tl, clen sF tl, ?_⟩ | refine And.intro (clen sF tl) ?_ | refine And.intro (fitF tl) ?_ | refine ⟨_, setF tl, ?_⟩ | refine And.intro (fit1 hl (by decide)) ?_ | refine And.intro (fit1 tl (by decide)) ?_ | refine And.intro (fit1 rfl (by decide)) ?_ | refine ⟨_, sum_cell s25, rfl, ?_⟩ | refine ⟨_, set_n _, ?_⟩ | refine ⟨_, set_mn _, ?_⟩ | refine ⟨_, set_mx _, ?_⟩ | refine ⟨_, set_ce _, ?_⟩ | refine ⟨_, set_po _, ?_⟩ | refine ⟨_, set_s _, ?_⟩ | refine ⟨_, set_hi _, ?_⟩ | refine ⟨_, set_lo _, ?_⟩ | refine And.intro (fun _ => ?_) tf | refine And.intro ft (fun _ => ?_) | refine And.intro (by kernel_rfl) ?_ | refine And.intro (by decide) ?_ | refine And.intro (fun _ => ?_) (fun h => absurd h (by decide)) | refine And.intro (fun h => absurd h (by decide)) (fun _ => ?_) | refine ⟨_, _, r1.pu rfl rfl, ?_⟩ | refine ⟨_, _, t1.pu rfl rfl, ?_⟩ | fail); conv => whnf) | (refine And.intro (fun _ => ?_) (fun _ => ?_) <;> conv => whnf) | fail)
        all_goals try (refine Or.inl ?_; conv => whnf)
      all_goals try (exfalso; simp only [decide_eq_true_eq, decide_eq_false_iff_not, Bool.not_eq_true', Bool.not_eq_false', Bool.not_eq_true, Bool.not_eq_false, beq_iff_eq, bne_iff_ne, beq_eq_false_iff_ne, bne_eq_false_iff_eq, ne_eq, Decidable.not_not] at *; first | omega | contradiction | (simp_all; done) | (simp_all; omega))
      all_goals refine ⟨[], ?_⟩
      repeat (any_goals (first | exact True.intro | exact rfl | with_reducible_and_instances rfl | exact (by kernel_rfl) | refine And.intro ?_ ?_))
      all_goals conv => whnf
end Go.Proofs.YtbjmdnemeidpjaaGreat
