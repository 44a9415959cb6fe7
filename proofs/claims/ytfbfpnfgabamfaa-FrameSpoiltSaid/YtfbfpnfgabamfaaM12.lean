/- Parts FrK, FrL, FrM of the proof, put together. -/
import Derived.Test.YtfbfpnfgabamfaaM11
import Derived.Stop.IfaceNil
/- frame: Encode of a right frame, at the kinds without events. (Printed by frk.py.) -/
namespace Go.Proofs.Ytfbfpnfgabamfaa
set_option linter.unusedSimpArgs false
open Go.RowKit
set_option maxRecDepth 100000
set_option linter.unusedVariables false
set_option maxHeartbeats 8000000 in
theorem encode_1 (f : Fr) (hk : f.k = 1) (hf : FrOk f) (hr : rightK f 1 = true) : Sat Try.prog 6 [.d (frD f)] [] (.tup [.own 0, iA 0]) [.sl 1 ((sealT (frT f 1)).map bR)] := by
  have f1 := fields_f f 1 hk (by decide) (by decide)
  have r1 := right_sat f hf
  have hrf : rightF f = true := by unfold rightF; rw [if_pos (by omega), hk]; exact hr
  rw [hrf] at r1
  obtain ⟨hho, hv, hx, _⟩ := right_parts hr
  have hd : f.d.length ≤ 4096 ∨ 1 ≠ 8 := by
    first | exact .inr (by decide) | (left; simp only [extraB, Bool.and_eq_true, decide_eq_true_eq] at hx; omega)
  have hfl := frT_len f 1 (by decide)
  have u0 : Sat Try.prog 12 [.d (.sl 1 [[.v (.int .u64 (IntKind.u64.wrap 1))]])] [] (.own 0) [.sl 1 ((enc 1).map bR)] := uintsZ 1 (by decide) (by decide)
  have hv' : ∀ x ∈ valsK f 1, Sat Try.prog 12 [.d (.sl 1 [[.v (.int .u64 (IntKind.u64.wrap x))]])] [] (.own 0) [.sl 1 ((enc x.toNat).map bR)] := fun x hx => uintsZ x (hv x hx).1 (by have := (hv x hx).2; omega)
  have hle : ∀ i, (enc 1 ++ fldT ((valsK f 1).take i)).length ≤ 1000 := fun i => by
    have h1 := fldT_len ((valsK f 1).take i)
    have h2 := valsK_len f 1
    have h3 := enc_lens 1
    rw [List.length_take] at h1
    rw [List.length_append]; omega
  have hap : ∀ i (x : Int), (enc 1 ++ fldT ((valsK f 1).take i)).length + (enc x.toNat).length ≤ 100000000000 := fun i x => by
    have h1 := hle i
    have h2 := enc_lens x.toNat
    omega
  have hT : frT f 1 = enc 1 ++ fldT ((valsK f 1).take 2) := by
    simp [frT, extT, valsK, idxK, fldT]
  have hsl : (frT f 1).length ≤ 60000 := by
    have := hle 2
    rw [hT]; omega
  have ss := seal_sat (frT f 1) (by omega)
  have hsz : ((sealT (frT f 1)).map bR).length = (frT f 1).length + 4 := by rw [List.length_map, sealT_len]
  have d9 : decide (((((frT f 1) ++ le4 (sumN (frT f 1))).map bR).length : Int) > 65536) = false := decide_eq_false (by have : (((frT f 1) ++ le4 (sumN (frT f 1))).map bR).length = (frT f 1).length + 4 := hsz; omega)
  unfold sealT
  rw [hT] at ss d9 ⊢
  obtain ⟨kk, a, e, b, c, g, s, n, t, w, ev, sr, d⟩ := f
  have hk : kk = 1 := hk
  subst hk
  refine sat_of_vc (T := tiOf Try.prog) (E := E0) Try.func6 rfl rfl hE0 hm0 rfl ?_
  conv => whnf
  iterate 5
    repeat' (first | exact True.intro | ((first | refine And.intro (fun _ => ?_) tf | refine And.intro ft (fun _ => ?_) | refine And.intro (by kernel_rfl) ?_ | refine And.intro (by decide) ?_ | refine And.intro (fun _ => ?_) (fun h => absurd h (by decide)) | refine And.intro (fun h => absurd h (by decide)) (fun _ => ?_) | refine ⟨_, _, r1.pu rfl rfl, ?_⟩ | refine ⟨_, _, lendON u0 rfl (bR_flats _), ?_⟩ | refine ⟨_, _, f1.at1 0 rfl rfl rfl, ?_⟩ | refine ⟨_, _, lenP (by kernel_rfl), ?_⟩ | fail); conv => whnf) | (refine And.intro (fun _ => ?_) (fun _ => ?_) <;> conv => whnf) | fail)
    all_goals try (refine Or.inl ?_; conv => whnf)
  all_goals try (exfalso; simp only [decide_eq_true_eq, decide_eq_false_iff_not, Bool.not_eq_true', Bool.not_eq_false', Bool.not_eq_true, Bool.not_eq_false, beq_iff_eq, bne_iff_ne, beq_eq_false_iff_ne, bne_eq_false_iff_eq, ne_eq, Decidable.not_not] at *; first | omega | contradiction | (simp_all; done) | (simp_all; omega))
  refine ⟨Nat, fun i => i ≤ 2, fun i => match Nat.beq i 2 with
    | true => ([(20, iA i), (19, iA 2), (18, .rel 1 (slP 2)), (4, .d (bsD (enc 1 ++ fldT ((valsK ⟨1, a, e, b, c, g, s, n, t, w, ev, sr, d⟩ 1).take 2)))), (1, .ptr 0 0)], [.cells (frA ⟨1, a, e, b, c, g, s, n, t, w, ev, sr, d⟩), .cells (ptrsK 1)])
    | false => ([(20, iA i), (19, iA 2), (18, .rel 1 (slP 2)), (4, .own 2), (1, .ptr 0 0)], [.cells (frA ⟨1, a, e, b, c, g, s, n, t, w, ev, sr, d⟩), .cells (ptrsK 1), .sl 1 ((enc 1 ++ fldT ((valsK ⟨1, a, e, b, c, g, s, n, t, w, ev, sr, d⟩ 1).take i)).map bR)]), fun i => 2 - i, ⟨0, Nat.zero_le _, ?_⟩, ?_⟩
  · all_goals refine ⟨[(1, 3)], ?_⟩
    repeat (any_goals (first | exact True.intro | exact rfl | with_reducible_and_instances rfl | exact (by kernel_rfl) | refine And.intro ?_ ?_))
    all_goals conv => whnf
  intro i hi
  have hi : i ≤ 2 := hi
  obtain rfl | rfl | rfl : i = 0 ∨ i = 1 ∨ i = 2 := by omega
  · have u1 := hv' a (by simp [valsK, idxK, getN])
    conv => whnf
    iterate 6
      repeat' (first | exact True.intro | ((first | refine And.intro (fun _ => ?_) tf | refine And.intro ft (fun _ => ?_) | refine And.intro (by kernel_rfl) ?_ | refine And.intro (by decide) ?_ | refine And.intro (fun _ => ?_) (fun h => absurd h (by decide)) | refine And.intro (fun h => absurd h (by decide)) (fun _ => ?_) | refine ⟨_, _, ixP (by kernel_rfl) (by kernel_rfl) (by decide), ?_⟩ | refine ⟨_, _, lendON u1 rfl (bR_flats _), ?_⟩ | refine ⟨_, _, apx rfl rfl (hap 0 a), ?_⟩ | fail); conv => whnf) | (refine And.intro (fun _ => ?_) (fun _ => ?_) <;> conv => whnf) | fail)
      all_goals try (refine Or.inl ?_; conv => whnf)
    all_goals try (exfalso; simp only [decide_eq_true_eq, decide_eq_false_iff_not, Bool.not_eq_true', Bool.not_eq_false', Bool.not_eq_true, Bool.not_eq_false, beq_iff_eq, bne_iff_ne, beq_eq_false_iff_ne, bne_eq_false_iff_eq, ne_eq, Decidable.not_not] at *; first | omega | contradiction | (simp_all; done) | (simp_all; omega))
    refine ⟨1, by decide, by decide, ?_⟩
    all_goals refine ⟨[(2, 5)], ?_⟩
    repeat (any_goals (first | exact True.intro | exact rfl | with_reducible_and_instances rfl | exact (by kernel_rfl) | refine And.intro ?_ ?_))
    all_goals conv => whnf
    all_goals first | exact congrArg (fun l => AObj.sl 1 (List.map bR l)) (by simp [fldT, valsK, idxK, getN]) | exact congrArg (fun l => D.sl 1 (List.map bR l)) (by simp [fldT, valsK, idxK, getN])
  · have u1 := hv' b (by simp [valsK, idxK, getN])
    conv => whnf
    iterate 6
      repeat' (first | exact True.intro | ((first | refine And.intro (fun _ => ?_) tf | refine And.intro ft (fun _ => ?_) | refine And.intro (by kernel_rfl) ?_ | refine And.intro (by decide) ?_ | refine And.intro (fun _ => ?_) (fun h => absurd h (by decide)) | refine And.intro (fun h => absurd h (by decide)) (fun _ => ?_) | refine ⟨_, _, ixP (by kernel_rfl) (by kernel_rfl) (by decide), ?_⟩ | refine ⟨_, _, lendON u1 rfl (bR_flats _), ?_⟩ | refine ⟨_, _, apx rfl rfl (hap 1 b), ?_⟩ | fail); conv => whnf) | (refine And.intro (fun _ => ?_) (fun _ => ?_) <;> conv => whnf) | fail)
      all_goals try (refine Or.inl ?_; conv => whnf)
    all_goals try (exfalso; simp only [decide_eq_true_eq, decide_eq_false_iff_not, Bool.not_eq_true', Bool.not_eq_false', Bool.not_eq_true, Bool.not_eq_false, beq_iff_eq, bne_iff_ne, beq_eq_false_iff_ne, bne_eq_false_iff_eq, ne_eq, Decidable.not_not] at *; first | omega | contradiction | (simp_all; done) | (simp_all; omega))
    refine ⟨2, by decide, by decide, ?_⟩
    all_goals refine ⟨[(2, 5)], ?_⟩
    repeat (any_goals (first | exact True.intro | exact rfl | with_reducible_and_instances rfl | exact (by kernel_rfl) | refine And.intro ?_ ?_))
    all_goals conv => whnf
    all_goals first | exact congrArg (fun l => AObj.sl 1 (List.map bR l)) (by simp [fldT, valsK, idxK, getN]) | exact congrArg (fun l => D.sl 1 (List.map bR l)) (by simp [fldT, valsK, idxK, getN])
  conv => whnf
  iterate 6
    repeat' (first | exact True.intro | ((first | refine And.intro (fun _ => ?_) tf | refine And.intro ft (fun _ => ?_) | refine And.intro (by kernel_rfl) ?_ | refine And.intro (by decide) ?_ | refine And.intro (fun _ => ?_) (fun h => absurd h (by decide)) | refine And.intro (fun h => absurd h (by decide)) (fun _ => ?_) | refine ⟨_, _, lendON ss (by kernel_rfl) (bR_flats _), ?_⟩ | fail); conv => whnf) | (refine And.intro (fun _ => ?_) (fun _ => ?_) <;> conv => whnf) | fail)
    all_goals try (refine Or.inl ?_; conv => whnf)
  all_goals try exact (bnl ‹_› d9).elim
  all_goals refine ⟨[(0, 3)], ?_⟩
  repeat (any_goals (first | exact True.intro | exact rfl | with_reducible_and_instances rfl | exact (by kernel_rfl) | refine And.intro ?_ ?_))
  all_goals conv => whnf
set_option maxHeartbeats 8000000 in
theorem encode_2 (f : Fr) (hk : f.k = 2) (hf : FrOk f) (hr : rightK f 2 = true) : Sat Try.prog 6 [.d (frD f)] [] (.tup [.own 0, iA 0]) [.sl 1 ((sealT (frT f 2)).map bR)] := by
  have f1 := fields_f f 2 hk (by decide) (by decide)
  have r1 := right_sat f hf
  have hrf : rightF f = true := by unfold rightF; rw [if_pos (by omega), hk]; exact hr
  rw [hrf] at r1
  obtain ⟨hho, hv, hx, _⟩ := right_parts hr
  have hd : f.d.length ≤ 4096 ∨ 2 ≠ 8 := by
    first | exact .inr (by decide) | (left; simp only [extraB, Bool.and_eq_true, decide_eq_true_eq] at hx; omega)
  have hfl := frT_len f 2 (by decide)
  have u0 : Sat Try.prog 12 [.d (.sl 1 [[.v (.int .u64 (IntKind.u64.wrap 2))]])] [] (.own 0) [.sl 1 ((enc 2).map bR)] := uintsZ 2 (by decide) (by decide)
  have hv' : ∀ x ∈ valsK f 2, Sat Try.prog 12 [.d (.sl 1 [[.v (.int .u64 (IntKind.u64.wrap x))]])] [] (.own 0) [.sl 1 ((enc x.toNat).map bR)] := fun x hx => uintsZ x (hv x hx).1 (by have := (hv x hx).2; omega)
  have hle : ∀ i, (enc 2 ++ fldT ((valsK f 2).take i)).length ≤ 1000 := fun i => by
    have h1 := fldT_len ((valsK f 2).take i)
    have h2 := valsK_len f 2
    have h3 := enc_lens 2
    rw [List.length_take] at h1
    rw [List.length_append]; omega
  have hap : ∀ i (x : Int), (enc 2 ++ fldT ((valsK f 2).take i)).length + (enc x.toNat).length ≤ 100000000000 := fun i x => by
    have h1 := hle i
    have h2 := enc_lens x.toNat
    omega
  have hT : frT f 2 = enc 2 ++ fldT ((valsK f 2).take 3) := by
    simp [frT, extT, valsK, idxK, fldT]
  have hsl : (frT f 2).length ≤ 60000 := by
    have := hle 3
    rw [hT]; omega
  have ss := seal_sat (frT f 2) (by omega)
  have hsz : ((sealT (frT f 2)).map bR).length = (frT f 2).length + 4 := by rw [List.length_map, sealT_len]
  have d9 : decide (((((frT f 2) ++ le4 (sumN (frT f 2))).map bR).length : Int) > 65536) = false := decide_eq_false (by have : (((frT f 2) ++ le4 (sumN (frT f 2))).map bR).length = (frT f 2).length + 4 := hsz; omega)
  unfold sealT
  rw [hT] at ss d9 ⊢
  obtain ⟨kk, a, e, b, c, g, s, n, t, w, ev, sr, d⟩ := f
  have hk : kk = 2 := hk
  subst hk
  refine sat_of_vc (T := tiOf Try.prog) (E := E0) Try.func6 rfl rfl hE0 hm0 rfl ?_
  conv => whnf
  iterate 5
    repeat' (first | exact True.intro | ((first | refine And.intro (fun _ => ?_) tf | refine And.intro ft (fun _ => ?_) | refine And.intro (by kernel_rfl) ?_ | refine And.intro (by decide) ?_ | refine And.intro (fun _ => ?_) (fun h => absurd h (by decide)) | refine And.intro (fun h => absurd h (by decide)) (fun _ => ?_) | refine ⟨_, _, r1.pu rfl rfl, ?_⟩ | refine ⟨_, _, lendON u0 rfl (bR_flats _), ?_⟩ | refine ⟨_, _, f1.at1 0 rfl rfl rfl, ?_⟩ | refine ⟨_, _, lenP (by kernel_rfl), ?_⟩ | fail); conv => whnf) | (refine And.intro (fun _ => ?_) (fun _ => ?_) <;> conv => whnf) | fail)
    all_goals try (refine Or.inl ?_; conv => whnf)
  all_goals try (exfalso; simp only [decide_eq_true_eq, decide_eq_false_iff_not, Bool.not_eq_true', Bool.not_eq_false', Bool.not_eq_true, Bool.not_eq_false, beq_iff_eq, bne_iff_ne, beq_eq_false_iff_ne, bne_eq_false_iff_eq, ne_eq, Decidable.not_not] at *; first | omega | contradiction | (simp_all; done) | (simp_all; omega))
  refine ⟨Nat, fun i => i ≤ 3, fun i => match Nat.beq i 3 with
    | true => ([(20, iA i), (19, iA 3), (18, .rel 1 (slP 3)), (4, .d (bsD (enc 2 ++ fldT ((valsK ⟨2, a, e, b, c, g, s, n, t, w, ev, sr, d⟩ 2).take 3)))), (1, .ptr 0 0)], [.cells (frA ⟨2, a, e, b, c, g, s, n, t, w, ev, sr, d⟩), .cells (ptrsK 2)])
    | false => ([(20, iA i), (19, iA 3), (18, .rel 1 (slP 3)), (4, .own 2), (1, .ptr 0 0)], [.cells (frA ⟨2, a, e, b, c, g, s, n, t, w, ev, sr, d⟩), .cells (ptrsK 2), .sl 1 ((enc 2 ++ fldT ((valsK ⟨2, a, e, b, c, g, s, n, t, w, ev, sr, d⟩ 2).take i)).map bR)]), fun i => 3 - i, ⟨0, Nat.zero_le _, ?_⟩, ?_⟩
  · all_goals refine ⟨[(1, 3)], ?_⟩
    repeat (any_goals (first | exact True.intro | exact rfl | with_reducible_and_instances rfl | exact (by kernel_rfl) | refine And.intro ?_ ?_))
    all_goals conv => whnf
  intro i hi
  have hi : i ≤ 3 := hi
  obtain rfl | rfl | rfl | rfl : i = 0 ∨ i = 1 ∨ i = 2 ∨ i = 3 := by omega
  · have u1 := hv' a (by simp [valsK, idxK, getN])
    conv => whnf
    iterate 6
      repeat' (first | exact True.intro | ((first | refine And.intro (fun _ => ?_) tf | refine And.intro ft (fun _ => ?_) | refine And.intro (by kernel_rfl) ?_ | refine And.intro (by decide) ?_ | refine And.intro (fun _ => ?_) (fun h => absurd h (by decide)) | refine And.intro (fun h => absurd h (by decide)) (fun _ => ?_) | refine ⟨_, _, ixP (by kernel_rfl) (by kernel_rfl) (by decide), ?_⟩ | refine ⟨_, _, lendON u1 rfl (bR_flats _), ?_⟩ | refine ⟨_, _, apx rfl rfl (hap 0 a), ?_⟩ | fail); conv => whnf) | (refine And.intro (fun _ => ?_) (fun _ => ?_) <;> conv => whnf) | fail)
      all_goals try (refine Or.inl ?_; conv => whnf)
    all_goals try (exfalso; simp only [decide_eq_true_eq, decide_eq_false_iff_not, Bool.not_eq_true', Bool.not_eq_false', Bool.not_eq_true, Bool.not_eq_false, beq_iff_eq, bne_iff_ne, beq_eq_false_iff_ne, bne_eq_false_iff_eq, ne_eq, Decidable.not_not] at *; first | omega | contradiction | (simp_all; done) | (simp_all; omega))
    refine ⟨1, by decide, by decide, ?_⟩
    all_goals refine ⟨[(2, 5)], ?_⟩
    repeat (any_goals (first | exact True.intro | exact rfl | with_reducible_and_instances rfl | exact (by kernel_rfl) | refine And.intro ?_ ?_))
    all_goals conv => whnf
    all_goals first | exact congrArg (fun l => AObj.sl 1 (List.map bR l)) (by simp [fldT, valsK, idxK, getN]) | exact congrArg (fun l => D.sl 1 (List.map bR l)) (by simp [fldT, valsK, idxK, getN])
  · have u1 := hv' b (by simp [valsK, idxK, getN])
    conv => whnf
    iterate 6
      repeat' (first | exact True.intro | ((first | refine And.intro (fun _ => ?_) tf | refine And.intro ft (fun _ => ?_) | refine And.intro (by kernel_rfl) ?_ | refine And.intro (by decide) ?_ | refine And.intro (fun _ => ?_) (fun h => absurd h (by decide)) | refine And.intro (fun h => absurd h (by decide)) (fun _ => ?_) | refine ⟨_, _, ixP (by kernel_rfl) (by kernel_rfl) (by decide), ?_⟩ | refine ⟨_, _, lendON u1 rfl (bR_flats _), ?_⟩ | refine ⟨_, _, apx rfl rfl (hap 1 b), ?_⟩ | fail); conv => whnf) | (refine And.intro (fun _ => ?_) (fun _ => ?_) <;> conv => whnf) | fail)
      all_goals try (refine Or.inl ?_; conv => whnf)
    all_goals try (exfalso; simp only [decide_eq_true_eq, decide_eq_false_iff_not, Bool.not_eq_true', Bool.not_eq_false', Bool.not_eq_true, Bool.not_eq_false, beq_iff_eq, bne_iff_ne, beq_eq_false_iff_ne, bne_eq_false_iff_eq, ne_eq, Decidable.not_not] at *; first | omega | contradiction | (simp_all; done) | (simp_all; omega))
    refine ⟨2, by decide, by decide, ?_⟩
    all_goals refine ⟨[(2, 5)], ?_⟩
    repeat (any_goals (first | exact True.intro | exact rfl | with_reducible_and_instances rfl | exact (by kernel_rfl) | refine And.intro ?_ ?_))
    all_goals conv => whnf
    all_goals first | exact congrArg (fun l => AObj.sl 1 (List.map bR l)) (by simp [fldT, valsK, idxK, getN]) | exact congrArg (fun l => D.sl 1 (List.map bR l)) (by simp [fldT, valsK, idxK, getN])
  · have u1 := hv' e (by simp [valsK, idxK, getN])
    conv => whnf
    iterate 6
      repeat' (first | exact True.intro | ((first | refine And.intro (fun _ => ?_) tf | refine And.intro ft (fun _ => ?_) | refine And.intro (by kernel_rfl) ?_ | refine And.intro (by decide) ?_ | refine And.intro (fun _ => ?_) (fun h => absurd h (by decide)) | refine And.intro (fun h => absurd h (by decide)) (fun _ => ?_) | refine ⟨_, _, ixP (by kernel_rfl) (by kernel_rfl) (by decide), ?_⟩ | refine ⟨_, _, lendON u1 rfl (bR_flats _), ?_⟩ | refine ⟨_, _, apx rfl rfl (hap 2 e), ?_⟩ | fail); conv => whnf) | (refine And.intro (fun _ => ?_) (fun _ => ?_) <;> conv => whnf) | fail)
      all_goals try (refine Or.inl ?_; conv => whnf)
    all_goals try (exfalso; simp only [decide_eq_true_eq, decide_eq_false_iff_not, Bool.not_eq_true', Bool.not_eq_false', Bool.not_eq_true, Bool.not_eq_false, beq_iff_eq, bne_iff_ne, beq_eq_false_iff_ne, bne_eq_false_iff_eq, ne_eq, Decidable.not_not] at *; first | omega | contradiction | (simp_all; done) | (simp_all; omega))
    refine ⟨3, by decide, by decide, ?_⟩
    all_goals refine ⟨[(2, 5)], ?_⟩
    repeat (any_goals (first | exact True.intro | exact rfl | with_reducible_and_instances rfl | exact (by kernel_rfl) | refine And.intro ?_ ?_))
    all_goals conv => whnf
    all_goals first | exact congrArg (fun l => AObj.sl 1 (List.map bR l)) (by simp [fldT, valsK, idxK, getN]) | exact congrArg (fun l => D.sl 1 (List.map bR l)) (by simp [fldT, valsK, idxK, getN])
  conv => whnf
  iterate 6
    repeat' (first | exact True.intro | ((first | refine And.intro (fun _ => ?_) tf | refine And.intro ft (fun _ => ?_) | refine And.intro (by kernel_rfl) ?_ | refine And.intro (by decide) ?_ | refine And.intro (fun _ => ?_) (fun h => absurd h (by decide)) | refine And.intro (fun h => absurd h (by decide)) (fun _ => ?_) | refine ⟨_, _, lendON ss (by kernel_rfl) (bR_flats _), ?_⟩ | fail); conv => whnf) | (refine And.intro (fun _ => ?_) (fun _ => ?_) <;> conv => whnf) | fail)
    all_goals try (refine Or.inl ?_; conv => whnf)
  all_goals try exact (bnl ‹_› d9).elim
  all_goals refine ⟨[(0, 3)], ?_⟩
  repeat (any_goals (first | exact True.intro | exact rfl | with_reducible_and_instances rfl | exact (by kernel_rfl) | refine And.intro ?_ ?_))
  all_goals conv => whnf
set_option maxHeartbeats 8000000 in
theorem encode_3 (f : Fr) (hk : f.k = 3) (hf : FrOk f) (hr : rightK f 3 = true) : Sat Try.prog 6 [.d (frD f)] [] (.tup [.own 0, iA 0]) [.sl 1 ((sealT (frT f 3)).map bR)] := by
  have f1 := fields_f f 3 hk (by decide) (by decide)
  have r1 := right_sat f hf
  have hrf : rightF f = true := by unfold rightF; rw [if_pos (by omega), hk]; exact hr
  rw [hrf] at r1
  obtain ⟨hho, hv, hx, _⟩ := right_parts hr
  have hd : f.d.length ≤ 4096 ∨ 3 ≠ 8 := by
    first | exact .inr (by decide) | (left; simp only [extraB, Bool.and_eq_true, decide_eq_true_eq] at hx; omega)
  have hfl := frT_len f 3 (by decide)
  have u0 : Sat Try.prog 12 [.d (.sl 1 [[.v (.int .u64 (IntKind.u64.wrap 3))]])] [] (.own 0) [.sl 1 ((enc 3).map bR)] := uintsZ 3 (by decide) (by decide)
  have hv' : ∀ x ∈ valsK f 3, Sat Try.prog 12 [.d (.sl 1 [[.v (.int .u64 (IntKind.u64.wrap x))]])] [] (.own 0) [.sl 1 ((enc x.toNat).map bR)] := fun x hx => uintsZ x (hv x hx).1 (by have := (hv x hx).2; omega)
  have hle : ∀ i, (enc 3 ++ fldT ((valsK f 3).take i)).length ≤ 1000 := fun i => by
    have h1 := fldT_len ((valsK f 3).take i)
    have h2 := valsK_len f 3
    have h3 := enc_lens 3
    rw [List.length_take] at h1
    rw [List.length_append]; omega
  have hap : ∀ i (x : Int), (enc 3 ++ fldT ((valsK f 3).take i)).length + (enc x.toNat).length ≤ 100000000000 := fun i x => by
    have h1 := hle i
    have h2 := enc_lens x.toNat
    omega
  have hT : frT f 3 = enc 3 ++ fldT ((valsK f 3).take 3) := by
    simp [frT, extT, valsK, idxK, fldT]
  have hsl : (frT f 3).length ≤ 60000 := by
    have := hle 3
    rw [hT]; omega
  have ss := seal_sat (frT f 3) (by omega)
  have hsz : ((sealT (frT f 3)).map bR).length = (frT f 3).length + 4 := by rw [List.length_map, sealT_len]
  have d9 : decide (((((frT f 3) ++ le4 (sumN (frT f 3))).map bR).length : Int) > 65536) = false := decide_eq_false (by have : (((frT f 3) ++ le4 (sumN (frT f 3))).map bR).length = (frT f 3).length + 4 := hsz; omega)
  unfold sealT
  rw [hT] at ss d9 ⊢
  obtain ⟨kk, a, e, b, c, g, s, n, t, w, ev, sr, d⟩ := f
  have hk : kk = 3 := hk
  subst hk
  refine sat_of_vc (T := tiOf Try.prog) (E := E0) Try.func6 rfl rfl hE0 hm0 rfl ?_
  conv => whnf
  iterate 5
    repeat' (first | exact True.intro | ((first | refine And.intro (fun _ => ?_) tf | refine And.intro ft (fun _ => ?_) | refine And.intro (by kernel_rfl) ?_ | refine And.intro (by decide) ?_ | refine And.intro (fun _ => ?_) (fun h => absurd h (by decide)) | refine And.intro (fun h => absurd h (by decide)) (fun _ => ?_) | refine ⟨_, _, r1.pu rfl rfl, ?_⟩ | refine ⟨_, _, lendON u0 rfl (bR_flats _), ?_⟩ | refine ⟨_, _, f1.at1 0 rfl rfl rfl, ?_⟩ | refine ⟨_, _, lenP (by kernel_rfl), ?_⟩ | fail); conv => whnf) | (refine And.intro (fun _ => ?_) (fun _ => ?_) <;> conv => whnf) | fail)
    all_goals try (refine Or.inl ?_; conv => whnf)
  all_goals try (exfalso; simp only [decide_eq_true_eq, decide_eq_false_iff_not, Bool.not_eq_true', Bool.not_eq_false', Bool.not_eq_true, Bool.not_eq_false, beq_iff_eq, bne_iff_ne, beq_eq_false_iff_ne, bne_eq_false_iff_eq, ne_eq, Decidable.not_not] at *; first | omega | contradiction | (simp_all; done) | (simp_all; omega))
  refine ⟨Nat, fun i => i ≤ 3, fun i => match Nat.beq i 3 with
    | true => ([(20, iA i), (19, iA 3), (18, .rel 1 (slP 3)), (4, .d (bsD (enc 3 ++ fldT ((valsK ⟨3, a, e, b, c, g, s, n, t, w, ev, sr, d⟩ 3).take 3)))), (1, .ptr 0 0)], [.cells (frA ⟨3, a, e, b, c, g, s, n, t, w, ev, sr, d⟩), .cells (ptrsK 3)])
    | false => ([(20, iA i), (19, iA 3), (18, .rel 1 (slP 3)), (4, .own 2), (1, .ptr 0 0)], [.cells (frA ⟨3, a, e, b, c, g, s, n, t, w, ev, sr, d⟩), .cells (ptrsK 3), .sl 1 ((enc 3 ++ fldT ((valsK ⟨3, a, e, b, c, g, s, n, t, w, ev, sr, d⟩ 3).take i)).map bR)]), fun i => 3 - i, ⟨0, Nat.zero_le _, ?_⟩, ?_⟩
  · all_goals refine ⟨[(1, 3)], ?_⟩
    repeat (any_goals (first | exact True.intro | exact rfl | with_reducible_and_instances rfl | exact (by kernel_rfl) | refine And.intro ?_ ?_))
    all_goals conv => whnf
  intro i hi
  have hi : i ≤ 3 := hi
  obtain rfl | rfl | rfl | rfl : i = 0 ∨ i = 1 ∨ i = 2 ∨ i = 3 := by omega
  · have u1 := hv' a (by simp [valsK, idxK, getN])
    conv => whnf
    iterate 6
      repeat' (first | exact True.intro | ((first | refine And.intro (fun _ => ?_) tf | refine And.intro ft (fun _ => ?_) | refine And.intro (by kernel_rfl) ?_ | refine And.intro (by decide) ?_ | refine And.intro (fun _ => ?_) (fun h => absurd h (by decide)) | refine And.intro (fun h => absurd h (by decide)) (fun _ => ?_) | refine ⟨_, _, ixP (by kernel_rfl) (by kernel_rfl) (by decide), ?_⟩ | refine ⟨_, _, lendON u1 rfl (bR_flats _), ?_⟩ | refine ⟨_, _, apx rfl rfl (hap 0 a), ?_⟩ | fail); conv => whnf) | (refine And.intro (fun _ => ?_) (fun _ => ?_) <;> conv => whnf) | fail)
      all_goals try (refine Or.inl ?_; conv => whnf)
    all_goals try (exfalso; simp only [decide_eq_true_eq, decide_eq_false_iff_not, Bool.not_eq_true', Bool.not_eq_false', Bool.not_eq_true, Bool.not_eq_false, beq_iff_eq, bne_iff_ne, beq_eq_false_iff_ne, bne_eq_false_iff_eq, ne_eq, Decidable.not_not] at *; first | omega | contradiction | (simp_all; done) | (simp_all; omega))
    refine ⟨1, by decide, by decide, ?_⟩
    all_goals refine ⟨[(2, 5)], ?_⟩
    repeat (any_goals (first | exact True.intro | exact rfl | with_reducible_and_instances rfl | exact (by kernel_rfl) | refine And.intro ?_ ?_))
    all_goals conv => whnf
    all_goals first | exact congrArg (fun l => AObj.sl 1 (List.map bR l)) (by simp [fldT, valsK, idxK, getN]) | exact congrArg (fun l => D.sl 1 (List.map bR l)) (by simp [fldT, valsK, idxK, getN])
  · have u1 := hv' b (by simp [valsK, idxK, getN])
    conv => whnf
    iterate 6
      repeat' (first | exact True.intro | ((first | refine And.intro (fun _ => ?_) tf | refine And.intro ft (fun _ => ?_) | refine And.intro (by kernel_rfl) ?_ | refine And.intro (by decide) ?_ | refine And.intro (fun _ => ?_) (fun h => absurd h (by decide)) | refine And.intro (fun h => absurd h (by decide)) (fun _ => ?_) | refine ⟨_, _, ixP (by kernel_rfl) (by kernel_rfl) (by decide), ?_⟩ | refine ⟨_, _, lendON u1 rfl (bR_flats _), ?_⟩ | refine ⟨_, _, apx rfl rfl (hap 1 b), ?_⟩ | fail); conv => whnf) | (refine And.intro (fun _ => ?_) (fun _ => ?_) <;> conv => whnf) | fail)
      all_goals try (refine Or.inl ?_; conv => whnf)
    all_goals try (exfalso; simp only [decide_eq_true_eq, decide_eq_false_iff_not, Bool.not_eq_true', Bool.not_eq_false', Bool.not_eq_true, Bool.not_eq_false, beq_iff_eq, bne_iff_ne, beq_eq_false_iff_ne, bne_eq_false_iff_eq, ne_eq, Decidable.not_not] at *; first | omega | contradiction | (simp_all; done) | (simp_all; omega))
    refine ⟨2, by decide, by decide, ?_⟩
    all_goals refine ⟨[(2, 5)], ?_⟩
    repeat (any_goals (first | exact True.intro | exact rfl | with_reducible_and_instances rfl | exact (by kernel_rfl) | refine And.intro ?_ ?_))
    all_goals conv => whnf
    all_goals first | exact congrArg (fun l => AObj.sl 1 (List.map bR l)) (by simp [fldT, valsK, idxK, getN]) | exact congrArg (fun l => D.sl 1 (List.map bR l)) (by simp [fldT, valsK, idxK, getN])
  · have u1 := hv' c (by simp [valsK, idxK, getN])
    conv => whnf
    iterate 6
      repeat' (first | exact True.intro | ((first | refine And.intro (fun _ => ?_) tf | refine And.intro ft (fun _ => ?_) | refine And.intro (by kernel_rfl) ?_ | refine And.intro (by decide) ?_ | refine And.intro (fun _ => ?_) (fun h => absurd h (by decide)) | refine And.intro (fun h => absurd h (by decide)) (fun _ => ?_) | refine ⟨_, _, ixP (by kernel_rfl) (by kernel_rfl) (by decide), ?_⟩ | refine ⟨_, _, lendON u1 rfl (bR_flats _), ?_⟩ | refine ⟨_, _, apx rfl rfl (hap 2 c), ?_⟩ | fail); conv => whnf) | (refine And.intro (fun _ => ?_) (fun _ => ?_) <;> conv => whnf) | fail)
      all_goals try (refine Or.inl ?_; conv => whnf)
    all_goals try (exfalso; simp only [decide_eq_true_eq, decide_eq_false_iff_not, Bool.not_eq_true', Bool.not_eq_false', Bool.not_eq_true, Bool.not_eq_false, beq_iff_eq, bne_iff_ne, beq_eq_false_iff_ne, bne_eq_false_iff_eq, ne_eq, Decidable.not_not] at *; first | omega | contradiction | (simp_all; done) | (simp_all; omega))
    refine ⟨3, by decide, by decide, ?_⟩
    all_goals refine ⟨[(2, 5)], ?_⟩
    repeat (any_goals (first | exact True.intro | exact rfl | with_reducible_and_instances rfl | exact (by kernel_rfl) | refine And.intro ?_ ?_))
    all_goals conv => whnf
    all_goals first | exact congrArg (fun l => AObj.sl 1 (List.map bR l)) (by simp [fldT, valsK, idxK, getN]) | exact congrArg (fun l => D.sl 1 (List.map bR l)) (by simp [fldT, valsK, idxK, getN])
  conv => whnf
  iterate 6
    repeat' (first | exact True.intro | ((first | refine And.intro (fun _ => ?_) tf | refine And.intro ft (fun _ => ?_) | refine And.intro (by kernel_rfl) ?_ | refine And.intro (by decide) ?_ | refine And.intro (fun _ => ?_) (fun h => absurd h (by decide)) | refine And.intro (fun h => absurd h (by decide)) (fun _ => ?_) | refine ⟨_, _, lendON ss (by kernel_rfl) (bR_flats _), ?_⟩ | fail); conv => whnf) | (refine And.intro (fun _ => ?_) (fun _ => ?_) <;> conv => whnf) | fail)
    all_goals try (refine Or.inl ?_; conv => whnf)
  all_goals try exact (bnl ‹_› d9).elim
  all_goals refine ⟨[(0, 3)], ?_⟩
  repeat (any_goals (first | exact True.intro | exact rfl | with_reducible_and_instances rfl | exact (by kernel_rfl) | refine And.intro ?_ ?_))
  all_goals conv => whnf
set_option maxHeartbeats 8000000 in
theorem encode_4 (f : Fr) (hk : f.k = 4) (hf : FrOk f) (hr : rightK f 4 = true) : Sat Try.prog 6 [.d (frD f)] [] (.tup [.own 0, iA 0]) [.sl 1 ((sealT (frT f 4)).map bR)] := by
  have f1 := fields_f f 4 hk (by decide) (by decide)
  have r1 := right_sat f hf
  have hrf : rightF f = true := by unfold rightF; rw [if_pos (by omega), hk]; exact hr
  rw [hrf] at r1
  obtain ⟨hho, hv, hx, _⟩ := right_parts hr
  have hd : f.d.length ≤ 4096 ∨ 4 ≠ 8 := by
    first | exact .inr (by decide) | (left; simp only [extraB, Bool.and_eq_true, decide_eq_true_eq] at hx; omega)
  have hfl := frT_len f 4 (by decide)
  have u0 : Sat Try.prog 12 [.d (.sl 1 [[.v (.int .u64 (IntKind.u64.wrap 4))]])] [] (.own 0) [.sl 1 ((enc 4).map bR)] := uintsZ 4 (by decide) (by decide)
  have hv' : ∀ x ∈ valsK f 4, Sat Try.prog 12 [.d (.sl 1 [[.v (.int .u64 (IntKind.u64.wrap x))]])] [] (.own 0) [.sl 1 ((enc x.toNat).map bR)] := fun x hx => uintsZ x (hv x hx).1 (by have := (hv x hx).2; omega)
  have hle : ∀ i, (enc 4 ++ fldT ((valsK f 4).take i)).length ≤ 1000 := fun i => by
    have h1 := fldT_len ((valsK f 4).take i)
    have h2 := valsK_len f 4
    have h3 := enc_lens 4
    rw [List.length_take] at h1
    rw [List.length_append]; omega
  have hap : ∀ i (x : Int), (enc 4 ++ fldT ((valsK f 4).take i)).length + (enc x.toNat).length ≤ 100000000000 := fun i x => by
    have h1 := hle i
    have h2 := enc_lens x.toNat
    omega
  have hT : frT f 4 = enc 4 ++ fldT ((valsK f 4).take 6) := by
    simp [frT, extT, valsK, idxK, fldT]
  have hsl : (frT f 4).length ≤ 60000 := by
    have := hle 6
    rw [hT]; omega
  have ss := seal_sat (frT f 4) (by omega)
  have hsz : ((sealT (frT f 4)).map bR).length = (frT f 4).length + 4 := by rw [List.length_map, sealT_len]
  have d9 : decide (((((frT f 4) ++ le4 (sumN (frT f 4))).map bR).length : Int) > 65536) = false := decide_eq_false (by have : (((frT f 4) ++ le4 (sumN (frT f 4))).map bR).length = (frT f 4).length + 4 := hsz; omega)
  unfold sealT
  rw [hT] at ss d9 ⊢
  obtain ⟨kk, a, e, b, c, g, s, n, t, w, ev, sr, d⟩ := f
  have hk : kk = 4 := hk
  subst hk
  refine sat_of_vc (T := tiOf Try.prog) (E := E0) Try.func6 rfl rfl hE0 hm0 rfl ?_
  conv => whnf
  iterate 5
    repeat' (first | exact True.intro | ((first | refine And.intro (fun _ => ?_) tf | refine And.intro ft (fun _ => ?_) | refine And.intro (by kernel_rfl) ?_ | refine And.intro (by decide) ?_ | refine And.intro (fun _ => ?_) (fun h => absurd h (by decide)) | refine And.intro (fun h => absurd h (by decide)) (fun _ => ?_) | refine ⟨_, _, r1.pu rfl rfl, ?_⟩ | refine ⟨_, _, lendON u0 rfl (bR_flats _), ?_⟩ | refine ⟨_, _, f1.at1 0 rfl rfl rfl, ?_⟩ | refine ⟨_, _, lenP (by kernel_rfl), ?_⟩ | fail); conv => whnf) | (refine And.intro (fun _ => ?_) (fun _ => ?_) <;> conv => whnf) | fail)
    all_goals try (refine Or.inl ?_; conv => whnf)
  all_goals try (exfalso; simp only [decide_eq_true_eq, decide_eq_false_iff_not, Bool.not_eq_true', Bool.not_eq_false', Bool.not_eq_true, Bool.not_eq_false, beq_iff_eq, bne_iff_ne, beq_eq_false_iff_ne, bne_eq_false_iff_eq, ne_eq, Decidable.not_not] at *; first | omega | contradiction | (simp_all; done) | (simp_all; omega))
  refine ⟨Nat, fun i => i ≤ 6, fun i => match Nat.beq i 6 with
    | true => ([(20, iA i), (19, iA 6), (18, .rel 1 (slP 6)), (4, .d (bsD (enc 4 ++ fldT ((valsK ⟨4, a, e, b, c, g, s, n, t, w, ev, sr, d⟩ 4).take 6)))), (1, .ptr 0 0)], [.cells (frA ⟨4, a, e, b, c, g, s, n, t, w, ev, sr, d⟩), .cells (ptrsK 4)])
    | false => ([(20, iA i), (19, iA 6), (18, .rel 1 (slP 6)), (4, .own 2), (1, .ptr 0 0)], [.cells (frA ⟨4, a, e, b, c, g, s, n, t, w, ev, sr, d⟩), .cells (ptrsK 4), .sl 1 ((enc 4 ++ fldT ((valsK ⟨4, a, e, b, c, g, s, n, t, w, ev, sr, d⟩ 4).take i)).map bR)]), fun i => 6 - i, ⟨0, Nat.zero_le _, ?_⟩, ?_⟩
  · all_goals refine ⟨[(1, 3)], ?_⟩
    repeat (any_goals (first | exact True.intro | exact rfl | with_reducible_and_instances rfl | exact (by kernel_rfl) | refine And.intro ?_ ?_))
    all_goals conv => whnf
  intro i hi
  have hi : i ≤ 6 := hi
  obtain rfl | rfl | rfl | rfl | rfl | rfl | rfl : i = 0 ∨ i = 1 ∨ i = 2 ∨ i = 3 ∨ i = 4 ∨ i = 5 ∨ i = 6 := by omega
  · have u1 := hv' a (by simp [valsK, idxK, getN])
    conv => whnf
    iterate 6
      repeat' (first | exact True.intro | ((first | refine And.intro (fun _ => ?_) tf | refine And.intro ft (fun _ => ?_) | refine And.intro (by kernel_rfl) ?_ | refine And.intro (by decide) ?_ | refine And.intro (fun _ => ?_) (fun h => absurd h (by decide)) | refine And.intro (fun h => absurd h (by decide)) (fun _ => ?_) | refine ⟨_, _, ixP (by kernel_rfl) (by kernel_rfl) (by decide), ?_⟩ | refine ⟨_, _, lendON u1 rfl (bR_flats _), ?_⟩ | refine ⟨_, _, apx rfl rfl (hap 0 a), ?_⟩ | fail); conv => whnf) | (refine And.intro (fun _ => ?_) (fun _ => ?_) <;> conv => whnf) | fail)
      all_goals try (refine Or.inl ?_; conv => whnf)
    all_goals try (exfalso; simp only [decide_eq_true_eq, decide_eq_false_iff_not, Bool.not_eq_true', Bool.not_eq_false', Bool.not_eq_true, Bool.not_eq_false, beq_iff_eq, bne_iff_ne, beq_eq_false_iff_ne, bne_eq_false_iff_eq, ne_eq, Decidable.not_not] at *; first | omega | contradiction | (simp_all; done) | (simp_all; omega))
    refine ⟨1, by decide, by decide, ?_⟩
    all_goals refine ⟨[(2, 5)], ?_⟩
    repeat (any_goals (first | exact True.intro | exact rfl | with_reducible_and_instances rfl | exact (by kernel_rfl) | refine And.intro ?_ ?_))
    all_goals conv => whnf
    all_goals first | exact congrArg (fun l => AObj.sl 1 (List.map bR l)) (by simp [fldT, valsK, idxK, getN]) | exact congrArg (fun l => D.sl 1 (List.map bR l)) (by simp [fldT, valsK, idxK, getN])
  · have u1 := hv' e (by simp [valsK, idxK, getN])
    conv => whnf
    iterate 6
      repeat' (first | exact True.intro | ((first | refine And.intro (fun _ => ?_) tf | refine And.intro ft (fun _ => ?_) | refine And.intro (by kernel_rfl) ?_ | refine And.intro (by decide) ?_ | refine And.intro (fun _ => ?_) (fun h => absurd h (by decide)) | refine And.intro (fun h => absurd h (by decide)) (fun _ => ?_) | refine ⟨_, _, ixP (by kernel_rfl) (by kernel_rfl) (by decide), ?_⟩ | refine ⟨_, _, lendON u1 rfl (bR_flats _), ?_⟩ | refine ⟨_, _, apx rfl rfl (hap 1 e), ?_⟩ | fail); conv => whnf) | (refine And.intro (fun _ => ?_) (fun _ => ?_) <;> conv => whnf) | fail)
      all_goals try (refine Or.inl ?_; conv => whnf)
    all_goals try (exfalso; simp only [decide_eq_true_eq, decide_eq_false_iff_not, Bool.not_eq_true', Bool.not_eq_false', Bool.not_eq_true, Bool.not_eq_false, beq_iff_eq, bne_iff_ne, beq_eq_false_iff_ne, bne_eq_false_iff_eq, ne_eq, Decidable.not_not] at *; first | omega | contradiction | (simp_all; done) | (simp_all; omega))
    refine ⟨2, by decide, by decide, ?_⟩
    all_goals refine ⟨[(2, 5)], ?_⟩
    repeat (any_goals (first | exact True.intro | exact rfl | with_reducible_and_instances rfl | exact (by kernel_rfl) | refine And.intro ?_ ?_))
    all_goals conv => whnf
    all_goals first | exact congrArg (fun l => AObj.sl 1 (List.map bR l)) (by simp [fldT, valsK, idxK, getN]) | exact congrArg (fun l => D.sl 1 (List.map bR l)) (by simp [fldT, valsK, idxK, getN])
  · have u1 := hv' b (by simp [valsK, idxK, getN])
    conv => whnf
    iterate 6
      repeat' (first | exact True.intro | ((first | refine And.intro (fun _ => ?_) tf | refine And.intro ft (fun _ => ?_) | refine And.intro (by kernel_rfl) ?_ | refine And.intro (by decide) ?_ | refine And.intro (fun _ => ?_) (fun h => absurd h (by decide)) | refine And.intro (fun h => absurd h (by decide)) (fun _ => ?_) | refine ⟨_, _, ixP (by kernel_rfl) (by kernel_rfl) (by decide), ?_⟩ | refine ⟨_, _, lendON u1 rfl (bR_flats _), ?_⟩ | refine ⟨_, _, apx rfl rfl (hap 2 b), ?_⟩ | fail); conv => whnf) | (refine And.intro (fun _ => ?_) (fun _ => ?_) <;> conv => whnf) | fail)
      all_goals try (refine Or.inl ?_; conv => whnf)
    all_goals try (exfalso; simp only [decide_eq_true_eq, decide_eq_false_iff_not, Bool.not_eq_true', Bool.not_eq_false', Bool.not_eq_true, Bool.not_eq_false, beq_iff_eq, bne_iff_ne, beq_eq_false_iff_ne, bne_eq_false_iff_eq, ne_eq, Decidable.not_not] at *; first | omega | contradiction | (simp_all; done) | (simp_all; omega))
    refine ⟨3, by decide, by decide, ?_⟩
    all_goals refine ⟨[(2, 5)], ?_⟩
    repeat (any_goals (first | exact True.intro | exact rfl | with_reducible_and_instances rfl | exact (by kernel_rfl) | refine And.intro ?_ ?_))
    all_goals conv => whnf
    all_goals first | exact congrArg (fun l => AObj.sl 1 (List.map bR l)) (by simp [fldT, valsK, idxK, getN]) | exact congrArg (fun l => D.sl 1 (List.map bR l)) (by simp [fldT, valsK, idxK, getN])
  · have u1 := hv' c (by simp [valsK, idxK, getN])
    conv => whnf
    iterate 6
      repeat' (first | exact True.intro | ((first | refine And.intro (fun _ => ?_) tf | refine And.intro ft (fun _ => ?_) | refine And.intro (by kernel_rfl) ?_ | refine And.intro (by decide) ?_ | refine And.intro (fun _ => ?_) (fun h => absurd h (by decide)) | refine And.intro (fun h => absurd h (by decide)) (fun _ => ?_) | refine ⟨_, _, ixP (by kernel_rfl) (by kernel_rfl) (by decide), ?_⟩ | refine ⟨_, _, lendON u1 rfl (bR_flats _), ?_⟩ | refine ⟨_, _, apx rfl rfl (hap 3 c), ?_⟩ | fail); conv => whnf) | (refine And.intro (fun _ => ?_) (fun _ => ?_) <;> conv => whnf) | fail)
      all_goals try (refine Or.inl ?_; conv => whnf)
    all_goals try (exfalso; simp only [decide_eq_true_eq, decide_eq_false_iff_not, Bool.not_eq_true', Bool.not_eq_false', Bool.not_eq_true, Bool.not_eq_false, beq_iff_eq, bne_iff_ne, beq_eq_false_iff_ne, bne_eq_false_iff_eq, ne_eq, Decidable.not_not] at *; first | omega | contradiction | (simp_all; done) | (simp_all; omega))
    refine ⟨4, by decide, by decide, ?_⟩
    all_goals refine ⟨[(2, 5)], ?_⟩
    repeat (any_goals (first | exact True.intro | exact rfl | with_reducible_and_instances rfl | exact (by kernel_rfl) | refine And.intro ?_ ?_))
    all_goals conv => whnf
    all_goals first | exact congrArg (fun l => AObj.sl 1 (List.map bR l)) (by simp [fldT, valsK, idxK, getN]) | exact congrArg (fun l => D.sl 1 (List.map bR l)) (by simp [fldT, valsK, idxK, getN])
  · have u1 := hv' g (by simp [valsK, idxK, getN])
    conv => whnf
    iterate 6
      repeat' (first | exact True.intro | ((first | refine And.intro (fun _ => ?_) tf | refine And.intro ft (fun _ => ?_) | refine And.intro (by kernel_rfl) ?_ | refine And.intro (by decide) ?_ | refine And.intro (fun _ => ?_) (fun h => absurd h (by decide)) | refine And.intro (fun h => absurd h (by decide)) (fun _ => ?_) | refine ⟨_, _, ixP (by kernel_rfl) (by kernel_rfl) (by decide), ?_⟩ | refine ⟨_, _, lendON u1 rfl (bR_flats _), ?_⟩ | refine ⟨_, _, apx rfl rfl (hap 4 g), ?_⟩ | fail); conv => whnf) | (refine And.intro (fun _ => ?_) (fun _ => ?_) <;> conv => whnf) | fail)
      all_goals try (refine Or.inl ?_; conv => whnf)
    all_goals try (exfalso; simp only [decide_eq_true_eq, decide_eq_false_iff_not, Bool.not_eq_true', Bool.not_eq_false', Bool.not_eq_true, Bool.not_eq_false, beq_iff_eq, bne_iff_ne, beq_eq_false_iff_ne, bne_eq_false_iff_eq, ne_eq, Decidable.not_not] at *; first | omega | contradiction | (simp_all; done) | (simp_all; omega))
    refine ⟨5, by decide, by decide, ?_⟩
    all_goals refine ⟨[(2, 5)], ?_⟩
    repeat (any_goals (first | exact True.intro | exact rfl | with_reducible_and_instances rfl | exact (by kernel_rfl) | refine And.intro ?_ ?_))
    all_goals conv => whnf
    all_goals first | exact congrArg (fun l => AObj.sl 1 (List.map bR l)) (by simp [fldT, valsK, idxK, getN]) | exact congrArg (fun l => D.sl 1 (List.map bR l)) (by simp [fldT, valsK, idxK, getN])
  · have u1 := hv' s (by simp [valsK, idxK, getN])
    conv => whnf
    iterate 6
      repeat' (first | exact True.intro | ((first | refine And.intro (fun _ => ?_) tf | refine And.intro ft (fun _ => ?_) | refine And.intro (by kernel_rfl) ?_ | refine And.intro (by decide) ?_ | refine And.intro (fun _ => ?_) (fun h => absurd h (by decide)) | refine And.intro (fun h => absurd h (by decide)) (fun _ => ?_) | refine ⟨_, _, ixP (by kernel_rfl) (by kernel_rfl) (by decide), ?_⟩ | refine ⟨_, _, lendON u1 rfl (bR_flats _), ?_⟩ | refine ⟨_, _, apx rfl rfl (hap 5 s), ?_⟩ | fail); conv => whnf) | (refine And.intro (fun _ => ?_) (fun _ => ?_) <;> conv => whnf) | fail)
      all_goals try (refine Or.inl ?_; conv => whnf)
    all_goals try (exfalso; simp only [decide_eq_true_eq, decide_eq_false_iff_not, Bool.not_eq_true', Bool.not_eq_false', Bool.not_eq_true, Bool.not_eq_false, beq_iff_eq, bne_iff_ne, beq_eq_false_iff_ne, bne_eq_false_iff_eq, ne_eq, Decidable.not_not] at *; first | omega | contradiction | (simp_all; done) | (simp_all; omega))
    refine ⟨6, by decide, by decide, ?_⟩
    all_goals refine ⟨[(2, 5)], ?_⟩
    repeat (any_goals (first | exact True.intro | exact rfl | with_reducible_and_instances rfl | exact (by kernel_rfl) | refine And.intro ?_ ?_))
    all_goals conv => whnf
    all_goals first | exact congrArg (fun l => AObj.sl 1 (List.map bR l)) (by simp [fldT, valsK, idxK, getN]) | exact congrArg (fun l => D.sl 1 (List.map bR l)) (by simp [fldT, valsK, idxK, getN])
  conv => whnf
  iterate 6
    repeat' (first | exact True.intro | ((first | refine And.intro (fun _ => ?_) tf | refine And.intro ft (fun _ => ?_) | refine And.intro (by kernel_rfl) ?_ | refine And.intro (by decide) ?_ | refine And.intro (fun _ => ?_) (fun h => absurd h (by decide)) | refine And.intro (fun h => absurd h (by decide)) (fun _ => ?_) | refine ⟨_, _, lendON ss (by kernel_rfl) (bR_flats _), ?_⟩ | fail); conv => whnf) | (refine And.intro (fun _ => ?_) (fun _ => ?_) <;> conv => whnf) | fail)
    all_goals try (refine Or.inl ?_; conv => whnf)
  all_goals try exact (bnl ‹_› d9).elim
  all_goals refine ⟨[(0, 3)], ?_⟩
  repeat (any_goals (first | exact True.intro | exact rfl | with_reducible_and_instances rfl | exact (by kernel_rfl) | refine And.intro ?_ ?_))
  all_goals conv => whnf
set_option maxHeartbeats 8000000 in
theorem encode_6 (f : Fr) (hk : f.k = 6) (hf : FrOk f) (hr : rightK f 6 = true) : Sat Try.prog 6 [.d (frD f)] [] (.tup [.own 0, iA 0]) [.sl 1 ((sealT (frT f 6)).map bR)] := by
  have f1 := fields_f f 6 hk (by decide) (by decide)
  have r1 := right_sat f hf
  have hrf : rightF f = true := by unfold rightF; rw [if_pos (by omega), hk]; exact hr
  rw [hrf] at r1
  obtain ⟨hho, hv, hx, _⟩ := right_parts hr
  have hd : f.d.length ≤ 4096 ∨ 6 ≠ 8 := by
    first | exact .inr (by decide) | (left; simp only [extraB, Bool.and_eq_true, decide_eq_true_eq] at hx; omega)
  have hfl := frT_len f 6 (by decide)
  have u0 : Sat Try.prog 12 [.d (.sl 1 [[.v (.int .u64 (IntKind.u64.wrap 6))]])] [] (.own 0) [.sl 1 ((enc 6).map bR)] := uintsZ 6 (by decide) (by decide)
  have hv' : ∀ x ∈ valsK f 6, Sat Try.prog 12 [.d (.sl 1 [[.v (.int .u64 (IntKind.u64.wrap x))]])] [] (.own 0) [.sl 1 ((enc x.toNat).map bR)] := fun x hx => uintsZ x (hv x hx).1 (by have := (hv x hx).2; omega)
  have hle : ∀ i, (enc 6 ++ fldT ((valsK f 6).take i)).length ≤ 1000 := fun i => by
    have h1 := fldT_len ((valsK f 6).take i)
    have h2 := valsK_len f 6
    have h3 := enc_lens 6
    rw [List.length_take] at h1
    rw [List.length_append]; omega
  have hap : ∀ i (x : Int), (enc 6 ++ fldT ((valsK f 6).take i)).length + (enc x.toNat).length ≤ 100000000000 := fun i x => by
    have h1 := hle i
    have h2 := enc_lens x.toNat
    omega
  have hT : frT f 6 = enc 6 ++ fldT ((valsK f 6).take 3) := by
    simp [frT, extT, valsK, idxK, fldT]
  have hsl : (frT f 6).length ≤ 60000 := by
    have := hle 3
    rw [hT]; omega
  have ss := seal_sat (frT f 6) (by omega)
  have hsz : ((sealT (frT f 6)).map bR).length = (frT f 6).length + 4 := by rw [List.length_map, sealT_len]
  have d9 : decide (((((frT f 6) ++ le4 (sumN (frT f 6))).map bR).length : Int) > 65536) = false := decide_eq_false (by have : (((frT f 6) ++ le4 (sumN (frT f 6))).map bR).length = (frT f 6).length + 4 := hsz; omega)
  unfold sealT
  rw [hT] at ss d9 ⊢
  obtain ⟨kk, a, e, b, c, g, s, n, t, w, ev, sr, d⟩ := f
  have hk : kk = 6 := hk
  subst hk
  refine sat_of_vc (T := tiOf Try.prog) (E := E0) Try.func6 rfl rfl hE0 hm0 rfl ?_
  conv => whnf
  iterate 5
    repeat' (first | exact True.intro | ((first | refine And.intro (fun _ => ?_) tf | refine And.intro ft (fun _ => ?_) | refine And.intro (by kernel_rfl) ?_ | refine And.intro (by decide) ?_ | refine And.intro (fun _ => ?_) (fun h => absurd h (by decide)) | refine And.intro (fun h => absurd h (by decide)) (fun _ => ?_) | refine ⟨_, _, r1.pu rfl rfl, ?_⟩ | refine ⟨_, _, lendON u0 rfl (bR_flats _), ?_⟩ | refine ⟨_, _, f1.at1 0 rfl rfl rfl, ?_⟩ | refine ⟨_, _, lenP (by kernel_rfl), ?_⟩ | fail); conv => whnf) | (refine And.intro (fun _ => ?_) (fun _ => ?_) <;> conv => whnf) | fail)
    all_goals try (refine Or.inl ?_; conv => whnf)
  all_goals try (exfalso; simp only [decide_eq_true_eq, decide_eq_false_iff_not, Bool.not_eq_true', Bool.not_eq_false', Bool.not_eq_true, Bool.not_eq_false, beq_iff_eq, bne_iff_ne, beq_eq_false_iff_ne, bne_eq_false_iff_eq, ne_eq, Decidable.not_not] at *; first | omega | contradiction | (simp_all; done) | (simp_all; omega))
  refine ⟨Nat, fun i => i ≤ 3, fun i => match Nat.beq i 3 with
    | true => ([(20, iA i), (19, iA 3), (18, .rel 1 (slP 3)), (4, .d (bsD (enc 6 ++ fldT ((valsK ⟨6, a, e, b, c, g, s, n, t, w, ev, sr, d⟩ 6).take 3)))), (1, .ptr 0 0)], [.cells (frA ⟨6, a, e, b, c, g, s, n, t, w, ev, sr, d⟩), .cells (ptrsK 6)])
    | false => ([(20, iA i), (19, iA 3), (18, .rel 1 (slP 3)), (4, .own 2), (1, .ptr 0 0)], [.cells (frA ⟨6, a, e, b, c, g, s, n, t, w, ev, sr, d⟩), .cells (ptrsK 6), .sl 1 ((enc 6 ++ fldT ((valsK ⟨6, a, e, b, c, g, s, n, t, w, ev, sr, d⟩ 6).take i)).map bR)]), fun i => 3 - i, ⟨0, Nat.zero_le _, ?_⟩, ?_⟩
  · all_goals refine ⟨[(1, 3)], ?_⟩
    repeat (any_goals (first | exact True.intro | exact rfl | with_reducible_and_instances rfl | exact (by kernel_rfl) | refine And.intro ?_ ?_))
    all_goals conv => whnf
  intro i hi
  have hi : i ≤ 3 := hi
  obtain rfl | rfl | rfl | rfl : i = 0 ∨ i = 1 ∨ i = 2 ∨ i = 3 := by omega
  · have u1 := hv' a (by simp [valsK, idxK, getN])
    conv => whnf
    iterate 6
      repeat' (first | exact True.intro | ((first | refine And.intro (fun _ => ?_) tf | refine And.intro ft (fun _ => ?_) | refine And.intro (by kernel_rfl) ?_ | refine And.intro (by decide) ?_ | refine And.intro (fun _ => ?_) (fun h => absurd h (by decide)) | refine And.intro (fun h => absurd h (by decide)) (fun _ => ?_) | refine ⟨_, _, ixP (by kernel_rfl) (by kernel_rfl) (by decide), ?_⟩ | refine ⟨_, _, lendON u1 rfl (bR_flats _), ?_⟩ | refine ⟨_, _, apx rfl rfl (hap 0 a), ?_⟩ | fail); conv => whnf) | (refine And.intro (fun _ => ?_) (fun _ => ?_) <;> conv => whnf) | fail)
      all_goals try (refine Or.inl ?_; conv => whnf)
    all_goals try (exfalso; simp only [decide_eq_true_eq, decide_eq_false_iff_not, Bool.not_eq_true', Bool.not_eq_false', Bool.not_eq_true, Bool.not_eq_false, beq_iff_eq, bne_iff_ne, beq_eq_false_iff_ne, bne_eq_false_iff_eq, ne_eq, Decidable.not_not] at *; first | omega | contradiction | (simp_all; done) | (simp_all; omega))
    refine ⟨1, by decide, by decide, ?_⟩
    all_goals refine ⟨[(2, 5)], ?_⟩
    repeat (any_goals (first | exact True.intro | exact rfl | with_reducible_and_instances rfl | exact (by kernel_rfl) | refine And.intro ?_ ?_))
    all_goals conv => whnf
    all_goals first | exact congrArg (fun l => AObj.sl 1 (List.map bR l)) (by simp [fldT, valsK, idxK, getN]) | exact congrArg (fun l => D.sl 1 (List.map bR l)) (by simp [fldT, valsK, idxK, getN])
  · have u1 := hv' e (by simp [valsK, idxK, getN])
    conv => whnf
    iterate 6
      repeat' (first | exact True.intro | ((first | refine And.intro (fun _ => ?_) tf | refine And.intro ft (fun _ => ?_) | refine And.intro (by kernel_rfl) ?_ | refine And.intro (by decide) ?_ | refine And.intro (fun _ => ?_) (fun h => absurd h (by decide)) | refine And.intro (fun h => absurd h (by decide)) (fun _ => ?_) | refine ⟨_, _, ixP (by kernel_rfl) (by kernel_rfl) (by decide), ?_⟩ | refine ⟨_, _, lendON u1 rfl (bR_flats _), ?_⟩ | refine ⟨_, _, apx rfl rfl (hap 1 e), ?_⟩ | fail); conv => whnf) | (refine And.intro (fun _ => ?_) (fun _ => ?_) <;> conv => whnf) | fail)
      all_goals try (refine Or.inl ?_; conv => whnf)
    all_goals try (exfalso; simp only [decide_eq_true_eq, decide_eq_false_iff_not, Bool.not_eq_true', Bool.not_eq_false', Bool.not_eq_true, Bool.not_eq_false, beq_iff_eq, bne_iff_ne, beq_eq_false_iff_ne, bne_eq_false_iff_eq, ne_eq, Decidable.not_not] at *; first | omega | contradiction | (simp_all; done) | (simp_all; omega))
    refine ⟨2, by decide, by decide, ?_⟩
    all_goals refine ⟨[(2, 5)], ?_⟩
    repeat (any_goals (first | exact True.intro | exact rfl | with_reducible_and_instances rfl | exact (by kernel_rfl) | refine And.intro ?_ ?_))
    all_goals conv => whnf
    all_goals first | exact congrArg (fun l => AObj.sl 1 (List.map bR l)) (by simp [fldT, valsK, idxK, getN]) | exact congrArg (fun l => D.sl 1 (List.map bR l)) (by simp [fldT, valsK, idxK, getN])
  · have u1 := hv' n (by simp [valsK, idxK, getN])
    conv => whnf
    iterate 6
      repeat' (first | exact True.intro | ((first | refine And.intro (fun _ => ?_) tf | refine And.intro ft (fun _ => ?_) | refine And.intro (by kernel_rfl) ?_ | refine And.intro (by decide) ?_ | refine And.intro (fun _ => ?_) (fun h => absurd h (by decide)) | refine And.intro (fun h => absurd h (by decide)) (fun _ => ?_) | refine ⟨_, _, ixP (by kernel_rfl) (by kernel_rfl) (by decide), ?_⟩ | refine ⟨_, _, lendON u1 rfl (bR_flats _), ?_⟩ | refine ⟨_, _, apx rfl rfl (hap 2 n), ?_⟩ | fail); conv => whnf) | (refine And.intro (fun _ => ?_) (fun _ => ?_) <;> conv => whnf) | fail)
      all_goals try (refine Or.inl ?_; conv => whnf)
    all_goals try (exfalso; simp only [decide_eq_true_eq, decide_eq_false_iff_not, Bool.not_eq_true', Bool.not_eq_false', Bool.not_eq_true, Bool.not_eq_false, beq_iff_eq, bne_iff_ne, beq_eq_false_iff_ne, bne_eq_false_iff_eq, ne_eq, Decidable.not_not] at *; first | omega | contradiction | (simp_all; done) | (simp_all; omega))
    refine ⟨3, by decide, by decide, ?_⟩
    all_goals refine ⟨[(2, 5)], ?_⟩
    repeat (any_goals (first | exact True.intro | exact rfl | with_reducible_and_instances rfl | exact (by kernel_rfl) | refine And.intro ?_ ?_))
    all_goals conv => whnf
    all_goals first | exact congrArg (fun l => AObj.sl 1 (List.map bR l)) (by simp [fldT, valsK, idxK, getN]) | exact congrArg (fun l => D.sl 1 (List.map bR l)) (by simp [fldT, valsK, idxK, getN])
  conv => whnf
  iterate 6
    repeat' (first | exact True.intro | ((first | refine And.intro (fun _ => ?_) tf | refine And.intro ft (fun _ => ?_) | refine And.intro (by kernel_rfl) ?_ | refine And.intro (by decide) ?_ | refine And.intro (fun _ => ?_) (fun h => absurd h (by decide)) | refine And.intro (fun h => absurd h (by decide)) (fun _ => ?_) | refine ⟨_, _, lendON ss (by kernel_rfl) (bR_flats _), ?_⟩ | fail); conv => whnf) | (refine And.intro (fun _ => ?_) (fun _ => ?_) <;> conv => whnf) | fail)
    all_goals try (refine Or.inl ?_; conv => whnf)
  all_goals try exact (bnl ‹_› d9).elim
  all_goals refine ⟨[(0, 3)], ?_⟩
  repeat (any_goals (first | exact True.intro | exact rfl | with_reducible_and_instances rfl | exact (by kernel_rfl) | refine And.intro ?_ ?_))
  all_goals conv => whnf
set_option maxHeartbeats 8000000 in
theorem encode_7 (f : Fr) (hk : f.k = 7) (hf : FrOk f) (hr : rightK f 7 = true) : Sat Try.prog 6 [.d (frD f)] [] (.tup [.own 0, iA 0]) [.sl 1 ((sealT (frT f 7)).map bR)] := by
  have f1 := fields_f f 7 hk (by decide) (by decide)
  have r1 := right_sat f hf
  have hrf : rightF f = true := by unfold rightF; rw [if_pos (by omega), hk]; exact hr
  rw [hrf] at r1
  obtain ⟨hho, hv, hx, _⟩ := right_parts hr
  have hd : f.d.length ≤ 4096 ∨ 7 ≠ 8 := by
    first | exact .inr (by decide) | (left; simp only [extraB, Bool.and_eq_true, decide_eq_true_eq] at hx; omega)
  have hfl := frT_len f 7 (by decide)
  have u0 : Sat Try.prog 12 [.d (.sl 1 [[.v (.int .u64 (IntKind.u64.wrap 7))]])] [] (.own 0) [.sl 1 ((enc 7).map bR)] := uintsZ 7 (by decide) (by decide)
  have hv' : ∀ x ∈ valsK f 7, Sat Try.prog 12 [.d (.sl 1 [[.v (.int .u64 (IntKind.u64.wrap x))]])] [] (.own 0) [.sl 1 ((enc x.toNat).map bR)] := fun x hx => uintsZ x (hv x hx).1 (by have := (hv x hx).2; omega)
  have hle : ∀ i, (enc 7 ++ fldT ((valsK f 7).take i)).length ≤ 1000 := fun i => by
    have h1 := fldT_len ((valsK f 7).take i)
    have h2 := valsK_len f 7
    have h3 := enc_lens 7
    rw [List.length_take] at h1
    rw [List.length_append]; omega
  have hap : ∀ i (x : Int), (enc 7 ++ fldT ((valsK f 7).take i)).length + (enc x.toNat).length ≤ 100000000000 := fun i x => by
    have h1 := hle i
    have h2 := enc_lens x.toNat
    omega
  have hT : frT f 7 = enc 7 ++ fldT ((valsK f 7).take 4) := by
    simp [frT, extT, valsK, idxK, fldT]
  have hsl : (frT f 7).length ≤ 60000 := by
    have := hle 4
    rw [hT]; omega
  have ss := seal_sat (frT f 7) (by omega)
  have hsz : ((sealT (frT f 7)).map bR).length = (frT f 7).length + 4 := by rw [List.length_map, sealT_len]
  have d9 : decide (((((frT f 7) ++ le4 (sumN (frT f 7))).map bR).length : Int) > 65536) = false := decide_eq_false (by have : (((frT f 7) ++ le4 (sumN (frT f 7))).map bR).length = (frT f 7).length + 4 := hsz; omega)
  unfold sealT
  rw [hT] at ss d9 ⊢
  obtain ⟨kk, a, e, b, c, g, s, n, t, w, ev, sr, d⟩ := f
  have hk : kk = 7 := hk
  subst hk
  refine sat_of_vc (T := tiOf Try.prog) (E := E0) Try.func6 rfl rfl hE0 hm0 rfl ?_
  conv => whnf
  iterate 5
    repeat' (first | exact True.intro | ((first | refine And.intro (fun _ => ?_) tf | refine And.intro ft (fun _ => ?_) | refine And.intro (by kernel_rfl) ?_ | refine And.intro (by decide) ?_ | refine And.intro (fun _ => ?_) (fun h => absurd h (by decide)) | refine And.intro (fun h => absurd h (by decide)) (fun _ => ?_) | refine ⟨_, _, r1.pu rfl rfl, ?_⟩ | refine ⟨_, _, lendON u0 rfl (bR_flats _), ?_⟩ | refine ⟨_, _, f1.at1 0 rfl rfl rfl, ?_⟩ | refine ⟨_, _, lenP (by kernel_rfl), ?_⟩ | fail); conv => whnf) | (refine And.intro (fun _ => ?_) (fun _ => ?_) <;> conv => whnf) | fail)
    all_goals try (refine Or.inl ?_; conv => whnf)
  all_goals try (exfalso; simp only [decide_eq_true_eq, decide_eq_false_iff_not, Bool.not_eq_true', Bool.not_eq_false', Bool.not_eq_true, Bool.not_eq_false, beq_iff_eq, bne_iff_ne, beq_eq_false_iff_ne, bne_eq_false_iff_eq, ne_eq, Decidable.not_not] at *; first | omega | contradiction | (simp_all; done) | (simp_all; omega))
  refine ⟨Nat, fun i => i ≤ 4, fun i => match Nat.beq i 4 with
    | true => ([(20, iA i), (19, iA 4), (18, .rel 1 (slP 4)), (4, .d (bsD (enc 7 ++ fldT ((valsK ⟨7, a, e, b, c, g, s, n, t, w, ev, sr, d⟩ 7).take 4)))), (1, .ptr 0 0)], [.cells (frA ⟨7, a, e, b, c, g, s, n, t, w, ev, sr, d⟩), .cells (ptrsK 7)])
    | false => ([(20, iA i), (19, iA 4), (18, .rel 1 (slP 4)), (4, .own 2), (1, .ptr 0 0)], [.cells (frA ⟨7, a, e, b, c, g, s, n, t, w, ev, sr, d⟩), .cells (ptrsK 7), .sl 1 ((enc 7 ++ fldT ((valsK ⟨7, a, e, b, c, g, s, n, t, w, ev, sr, d⟩ 7).take i)).map bR)]), fun i => 4 - i, ⟨0, Nat.zero_le _, ?_⟩, ?_⟩
  · all_goals refine ⟨[(1, 3)], ?_⟩
    repeat (any_goals (first | exact True.intro | exact rfl | with_reducible_and_instances rfl | exact (by kernel_rfl) | refine And.intro ?_ ?_))
    all_goals conv => whnf
  intro i hi
  have hi : i ≤ 4 := hi
  obtain rfl | rfl | rfl | rfl | rfl : i = 0 ∨ i = 1 ∨ i = 2 ∨ i = 3 ∨ i = 4 := by omega
  · have u1 := hv' a (by simp [valsK, idxK, getN])
    conv => whnf
    iterate 6
      repeat' (first | exact True.intro | ((first | refine And.intro (fun _ => ?_) tf | refine And.intro ft (fun _ => ?_) | refine And.intro (by kernel_rfl) ?_ | refine And.intro (by decide) ?_ | refine And.intro (fun _ => ?_) (fun h => absurd h (by decide)) | refine And.intro (fun h => absurd h (by decide)) (fun _ => ?_) | refine ⟨_, _, ixP (by kernel_rfl) (by kernel_rfl) (by decide), ?_⟩ | refine ⟨_, _, lendON u1 rfl (bR_flats _), ?_⟩ | refine ⟨_, _, apx rfl rfl (hap 0 a), ?_⟩ | fail); conv => whnf) | (refine And.intro (fun _ => ?_) (fun _ => ?_) <;> conv => whnf) | fail)
      all_goals try (refine Or.inl ?_; conv => whnf)
    all_goals try (exfalso; simp only [decide_eq_true_eq, decide_eq_false_iff_not, Bool.not_eq_true', Bool.not_eq_false', Bool.not_eq_true, Bool.not_eq_false, beq_iff_eq, bne_iff_ne, beq_eq_false_iff_ne, bne_eq_false_iff_eq, ne_eq, Decidable.not_not] at *; first | omega | contradiction | (simp_all; done) | (simp_all; omega))
    refine ⟨1, by decide, by decide, ?_⟩
    all_goals refine ⟨[(2, 5)], ?_⟩
    repeat (any_goals (first | exact True.intro | exact rfl | with_reducible_and_instances rfl | exact (by kernel_rfl) | refine And.intro ?_ ?_))
    all_goals conv => whnf
    all_goals first | exact congrArg (fun l => AObj.sl 1 (List.map bR l)) (by simp [fldT, valsK, idxK, getN]) | exact congrArg (fun l => D.sl 1 (List.map bR l)) (by simp [fldT, valsK, idxK, getN])
  · have u1 := hv' e (by simp [valsK, idxK, getN])
    conv => whnf
    iterate 6
      repeat' (first | exact True.intro | ((first | refine And.intro (fun _ => ?_) tf | refine And.intro ft (fun _ => ?_) | refine And.intro (by kernel_rfl) ?_ | refine And.intro (by decide) ?_ | refine And.intro (fun _ => ?_) (fun h => absurd h (by decide)) | refine And.intro (fun h => absurd h (by decide)) (fun _ => ?_) | refine ⟨_, _, ixP (by kernel_rfl) (by kernel_rfl) (by decide), ?_⟩ | refine ⟨_, _, lendON u1 rfl (bR_flats _), ?_⟩ | refine ⟨_, _, apx rfl rfl (hap 1 e), ?_⟩ | fail); conv => whnf) | (refine And.intro (fun _ => ?_) (fun _ => ?_) <;> conv => whnf) | fail)
      all_goals try (refine Or.inl ?_; conv => whnf)
    all_goals try (exfalso; simp only [decide_eq_true_eq, decide_eq_false_iff_not, Bool.not_eq_true', Bool.not_eq_false', Bool.not_eq_true, Bool.not_eq_false, beq_iff_eq, bne_iff_ne, beq_eq_false_iff_ne, bne_eq_false_iff_eq, ne_eq, Decidable.not_not] at *; first | omega | contradiction | (simp_all; done) | (simp_all; omega))
    refine ⟨2, by decide, by decide, ?_⟩
    all_goals refine ⟨[(2, 5)], ?_⟩
    repeat (any_goals (first | exact True.intro | exact rfl | with_reducible_and_instances rfl | exact (by kernel_rfl) | refine And.intro ?_ ?_))
    all_goals conv => whnf
    all_goals first | exact congrArg (fun l => AObj.sl 1 (List.map bR l)) (by simp [fldT, valsK, idxK, getN]) | exact congrArg (fun l => D.sl 1 (List.map bR l)) (by simp [fldT, valsK, idxK, getN])
  · have u1 := hv' n (by simp [valsK, idxK, getN])
    conv => whnf
    iterate 6
      repeat' (first | exact True.intro | ((first | refine And.intro (fun _ => ?_) tf | refine And.intro ft (fun _ => ?_) | refine And.intro (by kernel_rfl) ?_ | refine And.intro (by decide) ?_ | refine And.intro (fun _ => ?_) (fun h => absurd h (by decide)) | refine And.intro (fun h => absurd h (by decide)) (fun _ => ?_) | refine ⟨_, _, ixP (by kernel_rfl) (by kernel_rfl) (by decide), ?_⟩ | refine ⟨_, _, lendON u1 rfl (bR_flats _), ?_⟩ | refine ⟨_, _, apx rfl rfl (hap 2 n), ?_⟩ | fail); conv => whnf) | (refine And.intro (fun _ => ?_) (fun _ => ?_) <;> conv => whnf) | fail)
      all_goals try (refine Or.inl ?_; conv => whnf)
    all_goals try (exfalso; simp only [decide_eq_true_eq, decide_eq_false_iff_not, Bool.not_eq_true', Bool.not_eq_false', Bool.not_eq_true, Bool.not_eq_false, beq_iff_eq, bne_iff_ne, beq_eq_false_iff_ne, bne_eq_false_iff_eq, ne_eq, Decidable.not_not] at *; first | omega | contradiction | (simp_all; done) | (simp_all; omega))
    refine ⟨3, by decide, by decide, ?_⟩
    all_goals refine ⟨[(2, 5)], ?_⟩
    repeat (any_goals (first | exact True.intro | exact rfl | with_reducible_and_instances rfl | exact (by kernel_rfl) | refine And.intro ?_ ?_))
    all_goals conv => whnf
    all_goals first | exact congrArg (fun l => AObj.sl 1 (List.map bR l)) (by simp [fldT, valsK, idxK, getN]) | exact congrArg (fun l => D.sl 1 (List.map bR l)) (by simp [fldT, valsK, idxK, getN])
  · have u1 := hv' t (by simp [valsK, idxK, getN])
    conv => whnf
    iterate 6
      repeat' (first | exact True.intro | ((first | refine And.intro (fun _ => ?_) tf | refine And.intro ft (fun _ => ?_) | refine And.intro (by kernel_rfl) ?_ | refine And.intro (by decide) ?_ | refine And.intro (fun _ => ?_) (fun h => absurd h (by decide)) | refine And.intro (fun h => absurd h (by decide)) (fun _ => ?_) | refine ⟨_, _, ixP (by kernel_rfl) (by kernel_rfl) (by decide), ?_⟩ | refine ⟨_, _, lendON u1 rfl (bR_flats _), ?_⟩ | refine ⟨_, _, apx rfl rfl (hap 3 t), ?_⟩ | fail); conv => whnf) | (refine And.intro (fun _ => ?_) (fun _ => ?_) <;> conv => whnf) | fail)
      all_goals try (refine Or.inl ?_; conv => whnf)
    all_goals try (exfalso; simp only [decide_eq_true_eq, decide_eq_false_iff_not, Bool.not_eq_true', Bool.not_eq_false', Bool.not_eq_true, Bool.not_eq_false, beq_iff_eq, bne_iff_ne, beq_eq_false_iff_ne, bne_eq_false_iff_eq, ne_eq, Decidable.not_not] at *; first | omega | contradiction | (simp_all; done) | (simp_all; omega))
    refine ⟨4, by decide, by decide, ?_⟩
    all_goals refine ⟨[(2, 5)], ?_⟩
    repeat (any_goals (first | exact True.intro | exact rfl | with_reducible_and_instances rfl | exact (by kernel_rfl) | refine And.intro ?_ ?_))
    all_goals conv => whnf
    all_goals first | exact congrArg (fun l => AObj.sl 1 (List.map bR l)) (by simp [fldT, valsK, idxK, getN]) | exact congrArg (fun l => D.sl 1 (List.map bR l)) (by simp [fldT, valsK, idxK, getN])
  conv => whnf
  iterate 6
    repeat' (first | exact True.intro | ((first | refine And.intro (fun _ => ?_) tf | refine And.intro ft (fun _ => ?_) | refine And.intro (by kernel_rfl) ?_ | refine And.intro (by decide) ?_ | refine And.intro (fun _ => ?_) (fun h => absurd h (by decide)) | refine And.intro (fun h => absurd h (by decide)) (fun _ => ?_) | refine ⟨_, _, lendON ss (by kernel_rfl) (bR_flats _), ?_⟩ | fail); conv => whnf) | (refine And.intro (fun _ => ?_) (fun _ => ?_) <;> conv => whnf) | fail)
    all_goals try (refine Or.inl ?_; conv => whnf)
  all_goals try exact (bnl ‹_› d9).elim
  all_goals refine ⟨[(0, 3)], ?_⟩
  repeat (any_goals (first | exact True.intro | exact rfl | with_reducible_and_instances rfl | exact (by kernel_rfl) | refine And.intro ?_ ?_))
  all_goals conv => whnf
set_option maxHeartbeats 8000000 in
theorem encode_8 (f : Fr) (hk : f.k = 8) (hf : FrOk f) (hr : rightK f 8 = true) : Sat Try.prog 6 [.d (frD f)] [] (.tup [.own 0, iA 0]) [.sl 1 ((sealT (frT f 8)).map bR)] := by
  have f1 := fields_f f 8 hk (by decide) (by decide)
  have r1 := right_sat f hf
  have hrf : rightF f = true := by unfold rightF; rw [if_pos (by omega), hk]; exact hr
  rw [hrf] at r1
  obtain ⟨hho, hv, hx, _⟩ := right_parts hr
  have hd : f.d.length ≤ 4096 ∨ 8 ≠ 8 := by
    first | exact .inr (by decide) | (left; simp only [extraB, Bool.and_eq_true, decide_eq_true_eq] at hx; omega)
  have hfl := frT_len f 8 (by decide)
  have u0 : Sat Try.prog 12 [.d (.sl 1 [[.v (.int .u64 (IntKind.u64.wrap 8))]])] [] (.own 0) [.sl 1 ((enc 8).map bR)] := uintsZ 8 (by decide) (by decide)
  have hv' : ∀ x ∈ valsK f 8, Sat Try.prog 12 [.d (.sl 1 [[.v (.int .u64 (IntKind.u64.wrap x))]])] [] (.own 0) [.sl 1 ((enc x.toNat).map bR)] := fun x hx => uintsZ x (hv x hx).1 (by have := (hv x hx).2; omega)
  have hle : ∀ i, (enc 8 ++ fldT ((valsK f 8).take i)).length ≤ 1000 := fun i => by
    have h1 := fldT_len ((valsK f 8).take i)
    have h2 := valsK_len f 8
    have h3 := enc_lens 8
    rw [List.length_take] at h1
    rw [List.length_append]; omega
  have hap : ∀ i (x : Int), (enc 8 ++ fldT ((valsK f 8).take i)).length + (enc x.toNat).length ≤ 100000000000 := fun i x => by
    have h1 := hle i
    have h2 := enc_lens x.toNat
    omega
  have sb := bytes_satS f.sr
  have hs1 := serT_len f.sr
  have hs2 := encTL_len f.d
  have td := texts1 f.d (by omega)
  have hT : frT f 8 = (enc 8 ++ fldT ((valsK f 8).take 1)) ++ (bytesS f.sr ++ encTL f.d) := by
    simp [frT, extT, valsK, idxK, fldT]
  have hsl : (frT f 8).length ≤ 60000 := by
    have := hle 1
    have := hfl (by omega); omega
  have ss := seal_sat (frT f 8) (by omega)
  have hsz : ((sealT (frT f 8)).map bR).length = (frT f 8).length + 4 := by rw [List.length_map, sealT_len]
  have d9 : decide (((((frT f 8) ++ le4 (sumN (frT f 8))).map bR).length : Int) > 65536) = false := decide_eq_false (by have : (((frT f 8) ++ le4 (sumN (frT f 8))).map bR).length = (frT f 8).length + 4 := hsz; omega)
  unfold sealT
  rw [hT] at ss d9 ⊢
  obtain ⟨kk, a, e, b, c, g, s, n, t, w, ev, sr, d⟩ := f
  have hk : kk = 8 := hk
  subst hk
  refine sat_of_vc (T := tiOf Try.prog) (E := E0) Try.func6 rfl rfl hE0 hm0 rfl ?_
  conv => whnf
  iterate 5
    repeat' (first | exact True.intro | ((first | refine And.intro (fun _ => ?_) tf | refine And.intro ft (fun _ => ?_) | refine And.intro (by kernel_rfl) ?_ | refine And.intro (by decide) ?_ | refine And.intro (fun _ => ?_) (fun h => absurd h (by decide)) | refine And.intro (fun h => absurd h (by decide)) (fun _ => ?_) | refine ⟨_, _, r1.pu rfl rfl, ?_⟩ | refine ⟨_, _, lendON u0 rfl (bR_flats _), ?_⟩ | refine ⟨_, _, f1.at1 0 rfl rfl rfl, ?_⟩ | refine ⟨_, _, lenP (by kernel_rfl), ?_⟩ | fail); conv => whnf) | (refine And.intro (fun _ => ?_) (fun _ => ?_) <;> conv => whnf) | fail)
    all_goals try (refine Or.inl ?_; conv => whnf)
  all_goals try (exfalso; simp only [decide_eq_true_eq, decide_eq_false_iff_not, Bool.not_eq_true', Bool.not_eq_false', Bool.not_eq_true, Bool.not_eq_false, beq_iff_eq, bne_iff_ne, beq_eq_false_iff_ne, bne_eq_false_iff_eq, ne_eq, Decidable.not_not] at *; first | omega | contradiction | (simp_all; done) | (simp_all; omega))
  refine ⟨Nat, fun i => i ≤ 1, fun i => match Nat.beq i 1 with
    | true => ([(20, iA i), (19, iA 1), (18, .rel 1 (slP 1)), (4, .own 2), (1, .ptr 0 0)], [.cells (frA ⟨8, a, e, b, c, g, s, n, t, w, ev, sr, d⟩), .cells (ptrsK 8), .sl 1 ((enc 8 ++ fldT ((valsK ⟨8, a, e, b, c, g, s, n, t, w, ev, sr, d⟩ 8).take 1)).map bR)])
    | false => ([(20, iA i), (19, iA 1), (18, .rel 1 (slP 1)), (4, .own 2), (1, .ptr 0 0)], [.cells (frA ⟨8, a, e, b, c, g, s, n, t, w, ev, sr, d⟩), .cells (ptrsK 8), .sl 1 ((enc 8 ++ fldT ((valsK ⟨8, a, e, b, c, g, s, n, t, w, ev, sr, d⟩ 8).take i)).map bR)]), fun i => 1 - i, ⟨0, Nat.zero_le _, ?_⟩, ?_⟩
  · all_goals refine ⟨[(1, 3)], ?_⟩
    repeat (any_goals (first | exact True.intro | exact rfl | with_reducible_and_instances rfl | exact (by kernel_rfl) | refine And.intro ?_ ?_))
    all_goals conv => whnf
  intro i hi
  have hi : i ≤ 1 := hi
  obtain rfl | rfl : i = 0 ∨ i = 1 := by omega
  · have u1 := hv' w (by simp [valsK, idxK, getN])
    conv => whnf
    iterate 6
      repeat' (first | exact True.intro | ((first | refine And.intro (fun _ => ?_) tf | refine And.intro ft (fun _ => ?_) | refine And.intro (by kernel_rfl) ?_ | refine And.intro (by decide) ?_ | refine And.intro (fun _ => ?_) (fun h => absurd h (by decide)) | refine And.intro (fun h => absurd h (by decide)) (fun _ => ?_) | refine ⟨_, _, ixP (by kernel_rfl) (by kernel_rfl) (by decide), ?_⟩ | refine ⟨_, _, lendON u1 rfl (bR_flats _), ?_⟩ | refine ⟨_, _, apx rfl rfl (hap 0 w), ?_⟩ | fail); conv => whnf) | (refine And.intro (fun _ => ?_) (fun _ => ?_) <;> conv => whnf) | fail)
      all_goals try (refine Or.inl ?_; conv => whnf)
    all_goals try (exfalso; simp only [decide_eq_true_eq, decide_eq_false_iff_not, Bool.not_eq_true', Bool.not_eq_false', Bool.not_eq_true, Bool.not_eq_false, beq_iff_eq, bne_iff_ne, beq_eq_false_iff_ne, bne_eq_false_iff_eq, ne_eq, Decidable.not_not] at *; first | omega | contradiction | (simp_all; done) | (simp_all; omega))
    refine ⟨1, by decide, by decide, ?_⟩
    all_goals refine ⟨[(2, 5)], ?_⟩
    repeat (any_goals (first | exact True.intro | exact rfl | with_reducible_and_instances rfl | exact (by kernel_rfl) | refine And.intro ?_ ?_))
    all_goals conv => whnf
    all_goals first | exact congrArg (fun l => AObj.sl 1 (List.map bR l)) (by simp [fldT, valsK, idxK, getN]) | exact congrArg (fun l => D.sl 1 (List.map bR l)) (by simp [fldT, valsK, idxK, getN])
  have h21 : (enc 8 ++ fldT ((valsK ⟨8, a, e, b, c, g, s, n, t, w, ev, sr, d⟩ 8).take 1)).length + (bytesS sr).length ≤ 100000000000 := by have h1 := hle 1; have h2 : (bytesS sr).length ≤ 2000 := hs1; omega
  have h22 : ((enc 8 ++ fldT ((valsK ⟨8, a, e, b, c, g, s, n, t, w, ev, sr, d⟩ 8).take 1)) ++ bytesS sr).length + (encTL d).length ≤ 100000000000 := by rw [List.length_append]; have h1 := hle 1; have h2 : (bytesS sr).length ≤ 2000 := hs1; have h3 : d.length ≤ 4096 ∨ 8 ≠ 8 := hd; have h4 : 1 ≤ (encTL d).length ∧ (encTL d).length ≤ 10 + d.length := hs2; omega
  rw [← List.append_assoc] at ss d9 ⊢
  conv => whnf
  iterate 7
    repeat' (first | exact True.intro | ((first | refine And.intro (fun _ => ?_) tf | refine And.intro ft (fun _ => ?_) | refine And.intro (by kernel_rfl) ?_ | refine And.intro (by decide) ?_ | refine And.intro (fun _ => ?_) (fun h => absurd h (by decide)) | refine And.intro (fun h => absurd h (by decide)) (fun _ => ?_) | refine ⟨_, _, sb.pu rfl rfl, ?_⟩ | refine ⟨_, _, apxd rfl h21, ?_⟩ | refine ⟨_, _, str_d d, ?_⟩ | refine ⟨_, _, lendON td rfl (bR_flats _), ?_⟩ | refine ⟨_, _, apxz rfl rfl h22, ?_⟩ | refine ⟨_, _, lendON ss (by kernel_rfl) (bR_flats _), ?_⟩ | fail); conv => whnf) | (refine And.intro (fun _ => ?_) (fun _ => ?_) <;> conv => whnf) | fail)
    all_goals try (refine Or.inl ?_; conv => whnf)
  all_goals try exact (bnl ‹_› d9).elim
  all_goals refine ⟨[(0, 8)], ?_⟩
  repeat (any_goals (first | exact True.intro | exact rfl | with_reducible_and_instances rfl | exact (by kernel_rfl) | refine And.intro ?_ ?_))
  all_goals conv => whnf
end Go.Proofs.Ytfbfpnfgabamfaa
/- frame: Encode of a right batch. (Printed by frl.py.) -/
namespace Go.Proofs.Ytfbfpnfgabamfaa
set_option linter.unusedSimpArgs false
open Go.RowKit
set_option maxRecDepth 100000
set_option linter.unusedVariables false
set_option maxHeartbeats 8000000 in
theorem encode_5 (f : Fr) (hk : f.k = 5) (hf : FrOk f) (hz : ∀ x ∈ f.ev, in64 x.2.1) (hr : rightK f 5 = true) (hL : (sealT (frT f 5)).length ≤ 65536) : Sat Try.prog 6 [.d (frD f)] [] (.tup [.own 0, iA 0]) [.sl 1 ((sealT (frT f 5)).map bR)] := by
  have f1 := fields_f f 5 hk (by decide) (by decide)
  have r1 := right_sat f hf
  have hrf : rightF f = true := by unfold rightF; rw [if_pos (by omega), hk]; exact hr
  rw [hrf] at r1
  obtain ⟨hho, hv, hx, _⟩ := right_parts hr
  have hx : batchB f.n f.ev = true := hx
  simp only [batchB, Bool.and_eq_true, decide_eq_true_eq] at hx
  obtain ⟨hn1, hn2, hn3, hn4⟩ := hx
  have hev : ∀ x ∈ f.ev, 0 ≤ x.1 ∧ x.1 ≤ 4611686018427387903 := fun x hx => by
    have := List.all_eq_true.1 hn4 x hx
    simp only [evOk, Bool.and_eq_true] at this
    exact rngB_iff.1 this.1
  have hll : (f.ev.map evR).length = f.ev.length := List.length_map _
  have u0 : Sat Try.prog 12 [.d (.sl 1 [[.v (.int .u64 (IntKind.u64.wrap 5))]])] [] (.own 0) [.sl 1 ((enc 5).map bR)] := uintsZ 5 (by decide) (by decide)
  have u9 : Sat Try.prog 12 [.d (.sl 1 [[.v (.int .u64 (IntKind.u64.wrap ((f.ev.map evR).length : Int)))]])] [] (.own 0) [.sl 1 ((enc f.ev.length).map bR)] := by
    have := uintsZ ((f.ev.map evR).length : Int) (by omega) (by omega)
    rw [Int.toNat_natCast, hll] at this
    rw [hll]
    exact this
  have hv' : ∀ x ∈ valsK f 5, Sat Try.prog 12 [.d (.sl 1 [[.v (.int .u64 (IntKind.u64.wrap x))]])] [] (.own 0) [.sl 1 ((enc x.toNat).map bR)] := fun x hx => uintsZ x (hv x hx).1 (by have := (hv x hx).2; omega)
  have hle : ∀ i, (enc 5 ++ fldT ((valsK f 5).take i)).length ≤ 1000 := fun i => by
    have h1 := fldT_len ((valsK f 5).take i)
    have h2 := valsK_len f 5
    have h3 := enc_lens 5
    rw [List.length_take] at h1
    rw [List.length_append]; omega
  have hap : ∀ i (x : Int), (enc 5 ++ fldT ((valsK f 5).take i)).length + (enc x.toNat).length ≤ 100000000000 := fun i x => by
    have h1 := hle i
    have h2 := enc_lens x.toNat
    omega
  have hn5 := enc_lens f.ev.length
  have hT : frT f 5 = (enc 5 ++ fldT ((valsK f 5).take 3)) ++ enc f.ev.length ++ evsT f.ev := by
    simp [frT, extT, valsK, idxK, fldT]
  have hT5 := frT_len5 f
  have ss := seal_sat (frT f 5) (by omega)
  have hsz : ((sealT (frT f 5)).map bR).length = (sealT (frT f 5)).length := List.length_map _
  have d9 : decide (((((frT f 5) ++ le4 (sumN (frT f 5))).map bR).length : Int) > 65536) = false := decide_eq_false (by have : (((frT f 5) ++ le4 (sumN (frT f 5))).map bR).length = (sealT (frT f 5)).length := hsz; omega)
  have hB : ((enc 5 ++ fldT ((valsK f 5).take 3)) ++ enc f.ev.length).length ≤ 1010 := by
    have := hle 3
    rw [List.length_append]; omega
  have hBi : ∀ i, (((enc 5 ++ fldT ((valsK f 5).take 3)) ++ enc f.ev.length) ++ evsT (f.ev.take i)).length ≤ 200000 := fun i => by
    have := evsT_len (f.ev.take i)
    rw [List.length_take] at this
    rw [List.length_append]; omega
  have h9 : (enc 5 ++ fldT ((valsK f 5).take 3)).length + (enc f.ev.length).length ≤ 100000000000 := by
    have := hle 3
    omega
  unfold sealT at hL ⊢
  rw [hT] at ss d9 ⊢
  clear hL hsz hT5
  obtain ⟨kk, a, e, b, c, g, s, n, t, w, ev, sr, d⟩ := f
  have hk : kk = 5 := hk
  subst hk
  refine sat_of_vc (T := tiOf Try.prog) (E := E0) Try.func6 rfl rfl hE0 hm0 rfl ?_
  conv => whnf
  iterate 5
    repeat' (first | exact True.intro | ((first | refine And.intro (fun _ => ?_) tf | refine And.intro ft (fun _ => ?_) | refine And.intro (by kernel_rfl) ?_ | refine And.intro (by decide) ?_ | refine And.intro (fun _ => ?_) (fun h => absurd h (by decide)) | refine And.intro (fun h => absurd h (by decide)) (fun _ => ?_) | refine ⟨_, _, r1.pu rfl rfl, ?_⟩ | refine ⟨_, _, lendON u0 rfl (bR_flats _), ?_⟩ | refine ⟨_, _, f1.at1 0 rfl rfl rfl, ?_⟩ | refine ⟨_, _, lenP (by kernel_rfl), ?_⟩ | fail); conv => whnf) | (refine And.intro (fun _ => ?_) (fun _ => ?_) <;> conv => whnf) | fail)
    all_goals try (refine Or.inl ?_; conv => whnf)
  all_goals try (exfalso; simp only [decide_eq_true_eq, decide_eq_false_iff_not, Bool.not_eq_true', Bool.not_eq_false', Bool.not_eq_true, Bool.not_eq_false, beq_iff_eq, bne_iff_ne, beq_eq_false_iff_ne, bne_eq_false_iff_eq, ne_eq, Decidable.not_not] at *; first | omega | contradiction | (simp_all; done) | (simp_all; omega))
  refine ⟨Nat, fun i => i ≤ 3, fun i => ([(20, iA i), (19, iA 3), (18, .rel 1 (slP 3)), (4, .own 2), (1, .ptr 0 0)], [.cells (frA ⟨5, a, e, b, c, g, s, n, t, w, ev, sr, d⟩), .cells (ptrsK 5), .sl 1 ((enc 5 ++ fldT ((valsK ⟨5, a, e, b, c, g, s, n, t, w, ev, sr, d⟩ 5).take i)).map bR)]), fun i => 3 - i, ⟨0, Nat.zero_le _, ?_⟩, ?_⟩
  · all_goals refine ⟨[(1, 3)], ?_⟩
    repeat (any_goals (first | exact True.intro | exact rfl | with_reducible_and_instances rfl | exact (by kernel_rfl) | refine And.intro ?_ ?_))
    all_goals conv => whnf
  intro i hi
  have hi : i ≤ 3 := hi
  obtain rfl | rfl | rfl | rfl : i = 0 ∨ i = 1 ∨ i = 2 ∨ i = 3 := by omega
  · have u1 := hv' a (by simp [valsK, idxK, getN])
    conv => whnf
    iterate 6
      repeat' (first | exact True.intro | ((first | refine And.intro (fun _ => ?_) tf | refine And.intro ft (fun _ => ?_) | refine And.intro (by kernel_rfl) ?_ | refine And.intro (by decide) ?_ | refine And.intro (fun _ => ?_) (fun h => absurd h (by decide)) | refine And.intro (fun h => absurd h (by decide)) (fun _ => ?_) | refine ⟨_, _, ixP (by kernel_rfl) (by kernel_rfl) (by decide), ?_⟩ | refine ⟨_, _, lendON u1 rfl (bR_flats _), ?_⟩ | refine ⟨_, _, apx rfl rfl (hap 0 a), ?_⟩ | fail); conv => whnf) | (refine And.intro (fun _ => ?_) (fun _ => ?_) <;> conv => whnf) | fail)
      all_goals try (refine Or.inl ?_; conv => whnf)
    all_goals try (exfalso; simp only [decide_eq_true_eq, decide_eq_false_iff_not, Bool.not_eq_true', Bool.not_eq_false', Bool.not_eq_true, Bool.not_eq_false, beq_iff_eq, bne_iff_ne, beq_eq_false_iff_ne, bne_eq_false_iff_eq, ne_eq, Decidable.not_not] at *; first | omega | contradiction | (simp_all; done) | (simp_all; omega))
    refine ⟨1, by decide, by decide, ?_⟩
    all_goals refine ⟨[(2, 5)], ?_⟩
    repeat (any_goals (first | exact True.intro | exact rfl | with_reducible_and_instances rfl | exact (by kernel_rfl) | refine And.intro ?_ ?_))
    all_goals conv => whnf
    all_goals exact congrArg (fun l => AObj.sl 1 (List.map bR l)) (by simp [fldT, valsK, idxK, getN])
  · have u1 := hv' e (by simp [valsK, idxK, getN])
    conv => whnf
    iterate 6
      repeat' (first | exact True.intro | ((first | refine And.intro (fun _ => ?_) tf | refine And.intro ft (fun _ => ?_) | refine And.intro (by kernel_rfl) ?_ | refine And.intro (by decide) ?_ | refine And.intro (fun _ => ?_) (fun h => absurd h (by decide)) | refine And.intro (fun h => absurd h (by decide)) (fun _ => ?_) | refine ⟨_, _, ixP (by kernel_rfl) (by kernel_rfl) (by decide), ?_⟩ | refine ⟨_, _, lendON u1 rfl (bR_flats _), ?_⟩ | refine ⟨_, _, apx rfl rfl (hap 1 e), ?_⟩ | fail); conv => whnf) | (refine And.intro (fun _ => ?_) (fun _ => ?_) <;> conv => whnf) | fail)
      all_goals try (refine Or.inl ?_; conv => whnf)
    all_goals try (exfalso; simp only [decide_eq_true_eq, decide_eq_false_iff_not, Bool.not_eq_true', Bool.not_eq_false', Bool.not_eq_true, Bool.not_eq_false, beq_iff_eq, bne_iff_ne, beq_eq_false_iff_ne, bne_eq_false_iff_eq, ne_eq, Decidable.not_not] at *; first | omega | contradiction | (simp_all; done) | (simp_all; omega))
    refine ⟨2, by decide, by decide, ?_⟩
    all_goals refine ⟨[(2, 5)], ?_⟩
    repeat (any_goals (first | exact True.intro | exact rfl | with_reducible_and_instances rfl | exact (by kernel_rfl) | refine And.intro ?_ ?_))
    all_goals conv => whnf
    all_goals exact congrArg (fun l => AObj.sl 1 (List.map bR l)) (by simp [fldT, valsK, idxK, getN])
  · have u1 := hv' n (by simp [valsK, idxK, getN])
    conv => whnf
    iterate 6
      repeat' (first | exact True.intro | ((first | refine And.intro (fun _ => ?_) tf | refine And.intro ft (fun _ => ?_) | refine And.intro (by kernel_rfl) ?_ | refine And.intro (by decide) ?_ | refine And.intro (fun _ => ?_) (fun h => absurd h (by decide)) | refine And.intro (fun h => absurd h (by decide)) (fun _ => ?_) | refine ⟨_, _, ixP (by kernel_rfl) (by kernel_rfl) (by decide), ?_⟩ | refine ⟨_, _, lendON u1 rfl (bR_flats _), ?_⟩ | refine ⟨_, _, apx rfl rfl (hap 2 n), ?_⟩ | fail); conv => whnf) | (refine And.intro (fun _ => ?_) (fun _ => ?_) <;> conv => whnf) | fail)
      all_goals try (refine Or.inl ?_; conv => whnf)
    all_goals try (exfalso; simp only [decide_eq_true_eq, decide_eq_false_iff_not, Bool.not_eq_true', Bool.not_eq_false', Bool.not_eq_true, Bool.not_eq_false, beq_iff_eq, bne_iff_ne, beq_eq_false_iff_ne, bne_eq_false_iff_eq, ne_eq, Decidable.not_not] at *; first | omega | contradiction | (simp_all; done) | (simp_all; omega))
    refine ⟨3, by decide, by decide, ?_⟩
    all_goals refine ⟨[(2, 5)], ?_⟩
    repeat (any_goals (first | exact True.intro | exact rfl | with_reducible_and_instances rfl | exact (by kernel_rfl) | refine And.intro ?_ ?_))
    all_goals conv => whnf
    all_goals exact congrArg (fun l => AObj.sl 1 (List.map bR l)) (by simp [fldT, valsK, idxK, getN])
  conv => whnf
  iterate 6
    repeat' (first | exact True.intro | ((first | refine And.intro (fun _ => ?_) tf | refine And.intro ft (fun _ => ?_) | refine And.intro (by kernel_rfl) ?_ | refine And.intro (by decide) ?_ | refine And.intro (fun _ => ?_) (fun h => absurd h (by decide)) | refine And.intro (fun h => absurd h (by decide)) (fun _ => ?_) | refine ⟨_, _, lendON u9 (by kernel_rfl) (bR_flats _), ?_⟩ | refine ⟨_, _, apx rfl rfl h9, ?_⟩ | fail); conv => whnf) | (refine And.intro (fun _ => ?_) (fun _ => ?_) <;> conv => whnf) | fail)
    all_goals try (refine Or.inl ?_; conv => whnf)
  all_goals try (exfalso; simp only [decide_eq_true_eq, decide_eq_false_iff_not, Bool.not_eq_true', Bool.not_eq_false', Bool.not_eq_true, Bool.not_eq_false, beq_iff_eq, bne_iff_ne, beq_eq_false_iff_ne, bne_eq_false_iff_eq, ne_eq, Decidable.not_not] at *; first | omega | contradiction | (simp_all; done) | (simp_all; omega))
  generalize hB0 : (enc 5 ++ fldT ((valsK ⟨5, a, e, b, c, g, s, n, t, w, ev, sr, d⟩ 5).take 3)) ++ enc (Fr.ev ⟨5, a, e, b, c, g, s, n, t, w, ev, sr, d⟩).length = B0 at *
  obtain ⟨st, hst0, hst1⟩ : ∃ st : Nat → List (Nat × AV) × List AObj, (∀ i, i < ev.length → st i = ([(49, iA i), (48, iA (ev.map evR).length), (47, .d (.sl 4 (ev.map evR))), (35, iA 5), (4, .own 1), (1, .ptr 0 0)], [.cells (frA ⟨5, a, e, b, c, g, s, n, t, w, ev, sr, d⟩), .sl 1 ((B0 ++ evsT (ev.take i)).map bR)])) ∧
      st ev.length = ([(49, iA ev.length), (48, iA (ev.map evR).length), (47, .d (.sl 4 (ev.map evR))), (35, iA 5), (4, .d (bsD (B0 ++ evsT ev))), (1, .ptr 0 0)], [.cells (frA ⟨5, a, e, b, c, g, s, n, t, w, ev, sr, d⟩)]) :=
    ⟨fun i => if i < ev.length then _ else _, fun i h => if_pos h, if_neg (Nat.lt_irrefl _)⟩
  refine ⟨Nat, fun i => i ≤ ev.length, st, fun i => ev.length - i, ⟨0, Nat.zero_le _, ?_⟩, ?_⟩
  · rw [hst0 0 hn1]
    all_goals refine ⟨[(1, 5)], ?_⟩
    repeat (any_goals (first | exact True.intro | exact rfl | with_reducible_and_instances rfl | exact (by kernel_rfl) | refine And.intro ?_ ?_))
    all_goals conv => whnf
    exact congrArg (fun l => AObj.sl 1 (List.map bR l)) (by simp [evsT])
  have hn2 : ev.length ≤ 64 := hn2
  intro i hi
  have hi : i ≤ ev.length := hi
  by_cases hlt : i < ev.length
  · rw [hst0 i hlt]
    have hx : ev[i]? = some ev[i] := List.getElem?_eq_getElem hlt
    generalize ev[i] = x at hx
    have hm := List.mem_of_getElem? hx
    have hgx := map_get (f := evR) hx
    have d1 : decide ((i : Int) < ((ev.map evR).length : Nat)) = true := decide_eq_true (by rw [List.length_map]; omega)
    have u1 := uintsZ x.1 (hev x hm).1 (by have := (hev x hm).2; omega)
    have i1 := ints1 x.2.1 (hz x hm)
    have b1 := bytes_satS x.2.2
    have l1 := enc_lens x.1.toNat
    have l2 := enc_lens (turnN x.2.1)
    have l3 := serT_len x.2.2
    have hbi : (B0 ++ evsT (ev.take i)).length ≤ 200000 := hBi i
    have p1 : (B0 ++ evsT (ev.take i)).length + (enc x.1.toNat).length ≤ 100000000000 := by omega
    have p2 : ((B0 ++ evsT (ev.take i)) ++ enc x.1.toNat).length + (enc (turnN x.2.1)).length ≤ 100000000000 := by
      rw [List.length_append (bs := enc x.1.toNat)]; omega
    have p3 : (((B0 ++ evsT (ev.take i)) ++ enc x.1.toNat) ++ enc (turnN x.2.1)).length + (bytesS x.2.2).length ≤ 100000000000 := by
      rw [List.length_append (bs := enc (turnN x.2.1)), List.length_append (bs := enc x.1.toNat)]; omega
    conv => whnf
    iterate 6
      repeat' (first | exact True.intro | ((first | refine ⟨i, _, rfl, hgx, ?_⟩ | refine And.intro (fun _ => ?_) tf | refine And.intro ft (fun _ => ?_) | refine And.intro (by kernel_rfl) ?_ | refine And.intro (by decide) ?_ | refine And.intro (fun _ => ?_) (fun h => absurd h (by decide)) | refine And.intro (fun h => absurd h (by decide)) (fun _ => ?_) | refine ⟨_, _, lendON u1 (by kernel_rfl) (bR_flats _), ?_⟩ | refine ⟨_, _, apx rfl rfl p1, ?_⟩ | refine ⟨_, _, lendON i1 (by kernel_rfl) (bR_flats _), ?_⟩ | refine ⟨_, _, apx rfl rfl p2, ?_⟩ | refine ⟨_, _, b1.pu rfl rfl, ?_⟩ | refine ⟨_, _, apxd rfl p3, ?_⟩ | fail); conv => whnf) | (refine And.intro (fun _ => ?_) (fun _ => ?_) <;> conv => whnf) | fail)
      all_goals try (refine Or.inl ?_; conv => whnf)
    all_goals try exact (bnl d1 ‹_›).elim
    refine ⟨i + 1, hlt, show ev.length - (i + 1) < ev.length - i by omega, ?_⟩
    by_cases hq : i + 1 < ev.length
    · rw [hst0 _ hq]
      all_goals refine ⟨[(1, 9)], ?_⟩
      repeat (any_goals (first | exact True.intro | exact rfl | with_reducible_and_instances rfl | exact (by kernel_rfl) | refine And.intro ?_ ?_))
      all_goals conv => whnf
      · exact wk1 (by omega)
      · exact congrArg (fun l => AObj.sl 1 (List.map bR l)) (by rw [evsT_next hx]; simp [evT])
    · have e : ev.length = i + 1 := by omega
      have e2 : evsT ev = evsT (ev.take (i + 1)) := by rw [List.take_of_length_le (by omega)]
      rw [show st (i + 1) = st ev.length from by rw [e], hst1]
      all_goals refine ⟨[], ?_⟩
      repeat (any_goals (first | exact True.intro | exact rfl | with_reducible_and_instances rfl | exact (by kernel_rfl) | refine And.intro ?_ ?_))
      all_goals conv => whnf
      · rw [e]; exact wk1 (by omega)
      · have e3 : B0 ++ evsT (ev.take i) ++ enc x.1.toNat ++ enc (turnN x.2.1) ++ bytesS x.2.2 = B0 ++ evsT ev := by rw [e2, evsT_next hx]; simp [evT]
        first | exact congrArg (fun l => AV.d (D.sl 1 (List.map bR l))) e3 | exact congrArg (fun l => D.sl 1 (List.map bR l)) e3 | exact congrArg (fun l => AObj.sl 1 (List.map bR l)) e3
  · have d1 : decide ((i : Int) < ((ev.map evR).length : Nat)) = false := decide_eq_false (by rw [List.length_map]; omega)
    obtain rfl : i = ev.length := by omega
    rw [hst1]
    conv => whnf
    iterate 6
      repeat' (first | exact True.intro | ((first | refine And.intro (fun _ => ?_) tf | refine And.intro ft (fun _ => ?_) | refine And.intro (by kernel_rfl) ?_ | refine And.intro (by decide) ?_ | refine And.intro (fun _ => ?_) (fun h => absurd h (by decide)) | refine And.intro (fun h => absurd h (by decide)) (fun _ => ?_) | refine ⟨_, _, lendON ss (by kernel_rfl) (bR_flats _), ?_⟩ | fail); conv => whnf) | (refine And.intro (fun _ => ?_) (fun _ => ?_) <;> conv => whnf) | fail)
      all_goals try (refine Or.inl ?_; conv => whnf)
    all_goals try exact (bnl ‹_› d1).elim
    all_goals try exact (bnl ‹_› d9).elim
    all_goals refine ⟨[(0, 2)], ?_⟩
    repeat (any_goals (first | exact True.intro | exact rfl | with_reducible_and_instances rfl | exact (by kernel_rfl) | refine And.intro ?_ ?_))
    all_goals conv => whnf
set_option maxHeartbeats 8000000 in
theorem encode_5b (f : Fr) (hk : f.k = 5) (hf : FrOk f) (hz : ∀ x ∈ f.ev, in64 x.2.1) (hr : rightK f 5 = true) (hL : 65536 < (sealT (frT f 5)).length) : Sat Try.prog 6 [.d (frD f)] [] (.tup [.d nilV, iA 17]) [] := by
  have f1 := fields_f f 5 hk (by decide) (by decide)
  have r1 := right_sat f hf
  have hrf : rightF f = true := by unfold rightF; rw [if_pos (by omega), hk]; exact hr
  rw [hrf] at r1
  obtain ⟨hho, hv, hx, _⟩ := right_parts hr
  have hx : batchB f.n f.ev = true := hx
  simp only [batchB, Bool.and_eq_true, decide_eq_true_eq] at hx
  obtain ⟨hn1, hn2, hn3, hn4⟩ := hx
  have hev : ∀ x ∈ f.ev, 0 ≤ x.1 ∧ x.1 ≤ 4611686018427387903 := fun x hx => by
    have := List.all_eq_true.1 hn4 x hx
    simp only [evOk, Bool.and_eq_true] at this
    exact rngB_iff.1 this.1
  have hll : (f.ev.map evR).length = f.ev.length := List.length_map _
  have u0 : Sat Try.prog 12 [.d (.sl 1 [[.v (.int .u64 (IntKind.u64.wrap 5))]])] [] (.own 0) [.sl 1 ((enc 5).map bR)] := uintsZ 5 (by decide) (by decide)
  have u9 : Sat Try.prog 12 [.d (.sl 1 [[.v (.int .u64 (IntKind.u64.wrap ((f.ev.map evR).length : Int)))]])] [] (.own 0) [.sl 1 ((enc f.ev.length).map bR)] := by
    have := uintsZ ((f.ev.map evR).length : Int) (by omega) (by omega)
    rw [Int.toNat_natCast, hll] at this
    rw [hll]
    exact this
  have hv' : ∀ x ∈ valsK f 5, Sat Try.prog 12 [.d (.sl 1 [[.v (.int .u64 (IntKind.u64.wrap x))]])] [] (.own 0) [.sl 1 ((enc x.toNat).map bR)] := fun x hx => uintsZ x (hv x hx).1 (by have := (hv x hx).2; omega)
  have hle : ∀ i, (enc 5 ++ fldT ((valsK f 5).take i)).length ≤ 1000 := fun i => by
    have h1 := fldT_len ((valsK f 5).take i)
    have h2 := valsK_len f 5
    have h3 := enc_lens 5
    rw [List.length_take] at h1
    rw [List.length_append]; omega
  have hap : ∀ i (x : Int), (enc 5 ++ fldT ((valsK f 5).take i)).length + (enc x.toNat).length ≤ 100000000000 := fun i x => by
    have h1 := hle i
    have h2 := enc_lens x.toNat
    omega
  have hn5 := enc_lens f.ev.length
  have hT : frT f 5 = (enc 5 ++ fldT ((valsK f 5).take 3)) ++ enc f.ev.length ++ evsT f.ev := by
    simp [frT, extT, valsK, idxK, fldT]
  have hT5 := frT_len5 f
  have ss := seal_sat (frT f 5) (by omega)
  have hsz : ((sealT (frT f 5)).map bR).length = (sealT (frT f 5)).length := List.length_map _
  have d9 : decide (((((frT f 5) ++ le4 (sumN (frT f 5))).map bR).length : Int) > 65536) = true := decide_eq_true (by have : (((frT f 5) ++ le4 (sumN (frT f 5))).map bR).length = (sealT (frT f 5)).length := hsz; omega)
  have hB : ((enc 5 ++ fldT ((valsK f 5).take 3)) ++ enc f.ev.length).length ≤ 1010 := by
    have := hle 3
    rw [List.length_append]; omega
  have hBi : ∀ i, (((enc 5 ++ fldT ((valsK f 5).take 3)) ++ enc f.ev.length) ++ evsT (f.ev.take i)).length ≤ 200000 := fun i => by
    have := evsT_len (f.ev.take i)
    rw [List.length_take] at this
    rw [List.length_append]; omega
  have h9 : (enc 5 ++ fldT ((valsK f 5).take 3)).length + (enc f.ev.length).length ≤ 100000000000 := by
    have := hle 3
    omega
  unfold sealT at hL
  rw [hT] at ss d9
  clear hL hsz hT5
  obtain ⟨kk, a, e, b, c, g, s, n, t, w, ev, sr, d⟩ := f
  have hk : kk = 5 := hk
  subst hk
  refine sat_of_vc (T := tiOf Try.prog) (E := E0) Try.func6 rfl rfl hE0 hm0 rfl ?_
  conv => whnf
  iterate 5
    repeat' (first | exact True.intro | ((first | refine And.intro (fun _ => ?_) tf | refine And.intro ft (fun _ => ?_) | refine And.intro (by kernel_rfl) ?_ | refine And.intro (by decide) ?_ | refine And.intro (fun _ => ?_) (fun h => absurd h (by decide)) | refine And.intro (fun h => absurd h (by decide)) (fun _ => ?_) | refine ⟨_, _, r1.pu rfl rfl, ?_⟩ | refine ⟨_, _, lendON u0 rfl (bR_flats _), ?_⟩ | refine ⟨_, _, f1.at1 0 rfl rfl rfl, ?_⟩ | refine ⟨_, _, lenP (by kernel_rfl), ?_⟩ | fail); conv => whnf) | (refine And.intro (fun _ => ?_) (fun _ => ?_) <;> conv => whnf) | fail)
    all_goals try (refine Or.inl ?_; conv => whnf)
  all_goals try (exfalso; simp only [decide_eq_true_eq, decide_eq_false_iff_not, Bool.not_eq_true', Bool.not_eq_false', Bool.not_eq_true, Bool.not_eq_false, beq_iff_eq, bne_iff_ne, beq_eq_false_iff_ne, bne_eq_false_iff_eq, ne_eq, Decidable.not_not] at *; first | omega | contradiction | (simp_all; done) | (simp_all; omega))
  refine ⟨Nat, fun i => i ≤ 3, fun i => ([(20, iA i), (19, iA 3), (18, .rel 1 (slP 3)), (4, .own 2), (1, .ptr 0 0)], [.cells (frA ⟨5, a, e, b, c, g, s, n, t, w, ev, sr, d⟩), .cells (ptrsK 5), .sl 1 ((enc 5 ++ fldT ((valsK ⟨5, a, e, b, c, g, s, n, t, w, ev, sr, d⟩ 5).take i)).map bR)]), fun i => 3 - i, ⟨0, Nat.zero_le _, ?_⟩, ?_⟩
  · all_goals refine ⟨[(1, 3)], ?_⟩
    repeat (any_goals (first | exact True.intro | exact rfl | with_reducible_and_instances rfl | exact (by kernel_rfl) | refine And.intro ?_ ?_))
    all_goals conv => whnf
  intro i hi
  have hi : i ≤ 3 := hi
  obtain rfl | rfl | rfl | rfl : i = 0 ∨ i = 1 ∨ i = 2 ∨ i = 3 := by omega
  · have u1 := hv' a (by simp [valsK, idxK, getN])
    conv => whnf
    iterate 6
      repeat' (first | exact True.intro | ((first | refine And.intro (fun _ => ?_) tf | refine And.intro ft (fun _ => ?_) | refine And.intro (by kernel_rfl) ?_ | refine And.intro (by decide) ?_ | refine And.intro (fun _ => ?_) (fun h => absurd h (by decide)) | refine And.intro (fun h => absurd h (by decide)) (fun _ => ?_) | refine ⟨_, _, ixP (by kernel_rfl) (by kernel_rfl) (by decide), ?_⟩ | refine ⟨_, _, lendON u1 rfl (bR_flats _), ?_⟩ | refine ⟨_, _, apx rfl rfl (hap 0 a), ?_⟩ | fail); conv => whnf) | (refine And.intro (fun _ => ?_) (fun _ => ?_) <;> conv => whnf) | fail)
      all_goals try (refine Or.inl ?_; conv => whnf)
    all_goals try (exfalso; simp only [decide_eq_true_eq, decide_eq_false_iff_not, Bool.not_eq_true', Bool.not_eq_false', Bool.not_eq_true, Bool.not_eq_false, beq_iff_eq, bne_iff_ne, beq_eq_false_iff_ne, bne_eq_false_iff_eq, ne_eq, Decidable.not_not] at *; first | omega | contradiction | (simp_all; done) | (simp_all; omega))
    refine ⟨1, by decide, by decide, ?_⟩
    all_goals refine ⟨[(2, 5)], ?_⟩
    repeat (any_goals (first | exact True.intro | exact rfl | with_reducible_and_instances rfl | exact (by kernel_rfl) | refine And.intro ?_ ?_))
    all_goals conv => whnf
    all_goals exact congrArg (fun l => AObj.sl 1 (List.map bR l)) (by simp [fldT, valsK, idxK, getN])
  · have u1 := hv' e (by simp [valsK, idxK, getN])
    conv => whnf
    iterate 6
      repeat' (first | exact True.intro | ((first | refine And.intro (fun _ => ?_) tf | refine And.intro ft (fun _ => ?_) | refine And.intro (by kernel_rfl) ?_ | refine And.intro (by decide) ?_ | refine And.intro (fun _ => ?_) (fun h => absurd h (by decide)) | refine And.intro (fun h => absurd h (by decide)) (fun _ => ?_) | refine ⟨_, _, ixP (by kernel_rfl) (by kernel_rfl) (by decide), ?_⟩ | refine ⟨_, _, lendON u1 rfl (bR_flats _), ?_⟩ | refine ⟨_, _, apx rfl rfl (hap 1 e), ?_⟩ | fail); conv => whnf) | (refine And.intro (fun _ => ?_) (fun _ => ?_) <;> conv => whnf) | fail)
      all_goals try (refine Or.inl ?_; conv => whnf)
    all_goals try (exfalso; simp only [decide_eq_true_eq, decide_eq_false_iff_not, Bool.not_eq_true', Bool.not_eq_false', Bool.not_eq_true, Bool.not_eq_false, beq_iff_eq, bne_iff_ne, beq_eq_false_iff_ne, bne_eq_false_iff_eq, ne_eq, Decidable.not_not] at *; first | omega | contradiction | (simp_all; done) | (simp_all; omega))
    refine ⟨2, by decide, by decide, ?_⟩
    all_goals refine ⟨[(2, 5)], ?_⟩
    repeat (any_goals (first | exact True.intro | exact rfl | with_reducible_and_instances rfl | exact (by kernel_rfl) | refine And.intro ?_ ?_))
    all_goals conv => whnf
    all_goals exact congrArg (fun l => AObj.sl 1 (List.map bR l)) (by simp [fldT, valsK, idxK, getN])
  · have u1 := hv' n (by simp [valsK, idxK, getN])
    conv => whnf
    iterate 6
      repeat' (first | exact True.intro | ((first | refine And.intro (fun _ => ?_) tf | refine And.intro ft (fun _ => ?_) | refine And.intro (by kernel_rfl) ?_ | refine And.intro (by decide) ?_ | refine And.intro (fun _ => ?_) (fun h => absurd h (by decide)) | refine And.intro (fun h => absurd h (by decide)) (fun _ => ?_) | refine ⟨_, _, ixP (by kernel_rfl) (by kernel_rfl) (by decide), ?_⟩ | refine ⟨_, _, lendON u1 rfl (bR_flats _), ?_⟩ | refine ⟨_, _, apx rfl rfl (hap 2 n), ?_⟩ | fail); conv => whnf) | (refine And.intro (fun _ => ?_) (fun _ => ?_) <;> conv => whnf) | fail)
      all_goals try (refine Or.inl ?_; conv => whnf)
    all_goals try (exfalso; simp only [decide_eq_true_eq, decide_eq_false_iff_not, Bool.not_eq_true', Bool.not_eq_false', Bool.not_eq_true, Bool.not_eq_false, beq_iff_eq, bne_iff_ne, beq_eq_false_iff_ne, bne_eq_false_iff_eq, ne_eq, Decidable.not_not] at *; first | omega | contradiction | (simp_all; done) | (simp_all; omega))
    refine ⟨3, by decide, by decide, ?_⟩
    all_goals refine ⟨[(2, 5)], ?_⟩
    repeat (any_goals (first | exact True.intro | exact rfl | with_reducible_and_instances rfl | exact (by kernel_rfl) | refine And.intro ?_ ?_))
    all_goals conv => whnf
    all_goals exact congrArg (fun l => AObj.sl 1 (List.map bR l)) (by simp [fldT, valsK, idxK, getN])
  conv => whnf
  iterate 6
    repeat' (first | exact True.intro | ((first | refine And.intro (fun _ => ?_) tf | refine And.intro ft (fun _ => ?_) | refine And.intro (by kernel_rfl) ?_ | refine And.intro (by decide) ?_ | refine And.intro (fun _ => ?_) (fun h => absurd h (by decide)) | refine And.intro (fun h => absurd h (by decide)) (fun _ => ?_) | refine ⟨_, _, lendON u9 (by kernel_rfl) (bR_flats _), ?_⟩ | refine ⟨_, _, apx rfl rfl h9, ?_⟩ | fail); conv => whnf) | (refine And.intro (fun _ => ?_) (fun _ => ?_) <;> conv => whnf) | fail)
    all_goals try (refine Or.inl ?_; conv => whnf)
  all_goals try (exfalso; simp only [decide_eq_true_eq, decide_eq_false_iff_not, Bool.not_eq_true', Bool.not_eq_false', Bool.not_eq_true, Bool.not_eq_false, beq_iff_eq, bne_iff_ne, beq_eq_false_iff_ne, bne_eq_false_iff_eq, ne_eq, Decidable.not_not] at *; first | omega | contradiction | (simp_all; done) | (simp_all; omega))
  generalize hB0 : (enc 5 ++ fldT ((valsK ⟨5, a, e, b, c, g, s, n, t, w, ev, sr, d⟩ 5).take 3)) ++ enc (Fr.ev ⟨5, a, e, b, c, g, s, n, t, w, ev, sr, d⟩).length = B0 at *
  obtain ⟨st, hst0, hst1⟩ : ∃ st : Nat → List (Nat × AV) × List AObj, (∀ i, i < ev.length → st i = ([(49, iA i), (48, iA (ev.map evR).length), (47, .d (.sl 4 (ev.map evR))), (35, iA 5), (4, .own 1), (1, .ptr 0 0)], [.cells (frA ⟨5, a, e, b, c, g, s, n, t, w, ev, sr, d⟩), .sl 1 ((B0 ++ evsT (ev.take i)).map bR)])) ∧
      st ev.length = ([(49, iA ev.length), (48, iA (ev.map evR).length), (47, .d (.sl 4 (ev.map evR))), (35, iA 5), (4, .d (bsD (B0 ++ evsT ev))), (1, .ptr 0 0)], [.cells (frA ⟨5, a, e, b, c, g, s, n, t, w, ev, sr, d⟩)]) :=
    ⟨fun i => if i < ev.length then _ else _, fun i h => if_pos h, if_neg (Nat.lt_irrefl _)⟩
  refine ⟨Nat, fun i => i ≤ ev.length, st, fun i => ev.length - i, ⟨0, Nat.zero_le _, ?_⟩, ?_⟩
  · rw [hst0 0 hn1]
    all_goals refine ⟨[(1, 5)], ?_⟩
    repeat (any_goals (first | exact True.intro | exact rfl | with_reducible_and_instances rfl | exact (by kernel_rfl) | refine And.intro ?_ ?_))
    all_goals conv => whnf
    exact congrArg (fun l => AObj.sl 1 (List.map bR l)) (by simp [evsT])
  have hn2 : ev.length ≤ 64 := hn2
  intro i hi
  have hi : i ≤ ev.length := hi
  by_cases hlt : i < ev.length
  · rw [hst0 i hlt]
    have hx : ev[i]? = some ev[i] := List.getElem?_eq_getElem hlt
    generalize ev[i] = x at hx
    have hm := List.mem_of_getElem? hx
    have hgx := map_get (f := evR) hx
    have d1 : decide ((i : Int) < ((ev.map evR).length : Nat)) = true := decide_eq_true (by rw [List.length_map]; omega)
    have u1 := uintsZ x.1 (hev x hm).1 (by have := (hev x hm).2; omega)
    have i1 := ints1 x.2.1 (hz x hm)
    have b1 := bytes_satS x.2.2
    have l1 := enc_lens x.1.toNat
    have l2 := enc_lens (turnN x.2.1)
    have l3 := serT_len x.2.2
    have hbi : (B0 ++ evsT (ev.take i)).length ≤ 200000 := hBi i
    have p1 : (B0 ++ evsT (ev.take i)).length + (enc x.1.toNat).length ≤ 100000000000 := by omega
    have p2 : ((B0 ++ evsT (ev.take i)) ++ enc x.1.toNat).length + (enc (turnN x.2.1)).length ≤ 100000000000 := by
      rw [List.length_append (bs := enc x.1.toNat)]; omega
    have p3 : (((B0 ++ evsT (ev.take i)) ++ enc x.1.toNat) ++ enc (turnN x.2.1)).length + (bytesS x.2.2).length ≤ 100000000000 := by
      rw [List.length_append (bs := enc (turnN x.2.1)), List.length_append (bs := enc x.1.toNat)]; omega
    conv => whnf
    iterate 6
      repeat' (first | exact True.intro | ((first | refine ⟨i, _, rfl, hgx, ?_⟩ | refine And.intro (fun _ => ?_) tf | refine And.intro ft (fun _ => ?_) | refine And.intro (by kernel_rfl) ?_ | refine And.intro (by decide) ?_ | refine And.intro (fun _ => ?_) (fun h => absurd h (by decide)) | refine And.intro (fun h => absurd h (by decide)) (fun _ => ?_) | refine ⟨_, _, lendON u1 (by kernel_rfl) (bR_flats _), ?_⟩ | refine ⟨_, _, apx rfl rfl p1, ?_⟩ | refine ⟨_, _, lendON i1 (by kernel_rfl) (bR_flats _), ?_⟩ | refine ⟨_, _, apx rfl rfl p2, ?_⟩ | refine ⟨_, _, b1.pu rfl rfl, ?_⟩ | refine ⟨_, _, apxd rfl p3, ?_⟩ | fail); conv => whnf) | (refine And.intro (fun _ => ?_) (fun _ => ?_) <;> conv => whnf) | fail)
      all_goals try (refine Or.inl ?_; conv => whnf)
    all_goals try exact (bnl d1 ‹_›).elim
    refine ⟨i + 1, hlt, show ev.length - (i + 1) < ev.length - i by omega, ?_⟩
    by_cases hq : i + 1 < ev.length
    · rw [hst0 _ hq]
      all_goals refine ⟨[(1, 9)], ?_⟩
      repeat (any_goals (first | exact True.intro | exact rfl | with_reducible_and_instances rfl | exact (by kernel_rfl) | refine And.intro ?_ ?_))
      all_goals conv => whnf
      · exact wk1 (by omega)
      · exact congrArg (fun l => AObj.sl 1 (List.map bR l)) (by rw [evsT_next hx]; simp [evT])
    · have e : ev.length = i + 1 := by omega
      have e2 : evsT ev = evsT (ev.take (i + 1)) := by rw [List.take_of_length_le (by omega)]
      rw [show st (i + 1) = st ev.length from by rw [e], hst1]
      all_goals refine ⟨[], ?_⟩
      repeat (any_goals (first | exact True.intro | exact rfl | with_reducible_and_instances rfl | exact (by kernel_rfl) | refine And.intro ?_ ?_))
      all_goals conv => whnf
      · rw [e]; exact wk1 (by omega)
      · have e3 : B0 ++ evsT (ev.take i) ++ enc x.1.toNat ++ enc (turnN x.2.1) ++ bytesS x.2.2 = B0 ++ evsT ev := by rw [e2, evsT_next hx]; simp [evT]
        first | exact congrArg (fun l => AV.d (D.sl 1 (List.map bR l))) e3 | exact congrArg (fun l => D.sl 1 (List.map bR l)) e3 | exact congrArg (fun l => AObj.sl 1 (List.map bR l)) e3
  · have d1 : decide ((i : Int) < ((ev.map evR).length : Nat)) = false := decide_eq_false (by rw [List.length_map]; omega)
    obtain rfl : i = ev.length := by omega
    rw [hst1]
    conv => whnf
    iterate 6
      repeat' (first | exact True.intro | ((first | refine And.intro (fun _ => ?_) tf | refine And.intro ft (fun _ => ?_) | refine And.intro (by kernel_rfl) ?_ | refine And.intro (by decide) ?_ | refine And.intro (fun _ => ?_) (fun h => absurd h (by decide)) | refine And.intro (fun h => absurd h (by decide)) (fun _ => ?_) | refine ⟨_, _, lendON ss (by kernel_rfl) (bR_flats _), ?_⟩ | fail); conv => whnf) | (refine And.intro (fun _ => ?_) (fun _ => ?_) <;> conv => whnf) | fail)
      all_goals try (refine Or.inl ?_; conv => whnf)
    all_goals try exact (bnl ‹_› d1).elim
    all_goals try exact (bnl d9 ‹_›).elim
    all_goals refine ⟨[], ?_⟩
    repeat (any_goals (first | exact True.intro | exact rfl | with_reducible_and_instances rfl | exact (by kernel_rfl) | refine And.intro ?_ ?_))
    all_goals conv => whnf
end Go.Proofs.Ytfbfpnfgabamfaa
/- frame: what parse defers. -/
namespace Go.Proofs.Ytfbfpnfgabamfaa
set_option linter.unusedSimpArgs false
open Go.RowKit
set_option maxRecDepth 100000
set_option linter.unusedVariables false
theorem taF {L : List AObj} {ty n : Nat} {x : Operand} {t : TypeId} (e : Int) : Does Try.prog (.typeAssert x t 76 true) ty L n [fltA e] e0 (.tup [.d (.agg [iD e]), bA true]) :=
  does_val fun o w F ρ ev ho _ hx => by
    obtain ⟨v, e', hv⟩ := hx.one_out
    simp [Op.operands] at e'
    have := FlatW.eq (.d (.v _)) hv
    subst this
    have hr : (Instr.typeAssert (fltV e) t 76 true).run Try.prog w = .ok (.tuple #[.agg #[.int .i64 e], .bool true]) w := by kernel_rfl
    refine ⟨.tuple #[.agg #[.int .i64 e], .bool true], ?_, ?_⟩
    · simp only [execOp, ho, e']
      simp [hr]
    · exact FlatW.ra (.tup (.cons (.d (.agg (us := [.int .i64 e]) (.cons (.v _) rfl .nil))) (.cons (.d (.v _)) .nil)))
theorem eqI {L : List AObj} {ty n : Nat} {x y : Operand} {t t' : TypeId} (e : Int) (h : Try.prog.isIface t = true) : Does Try.prog (.binOp .eql t x y t') ty L n [fltA e, .d (.v .nilIface)] e0 (bA false) :=
  does_ra2 rfl fun o w F ρ ev u v ho h1 h2 hu hv => by
    have := hv.v_out
    subst this
    have := hu.v_out
    subst this
    exact exec_eq ho h1 h2 (guard_form _ _ rfl) (run_eql_iface_nil w t h _ _)
theorem eqNI {L : List AObj} {ty n : Nat} {x : Operand} {c : Value} {t t' : TypeId} (h : Try.prog.isIface t = true) : Does Try.prog (.binOp .eql t x (.const c) t') ty L n [.d (.v .nilIface), .d (.v .nilIface)] e0 (bA true) :=
  does_ra2 rfl fun o w F ρ ev u v ho h1 h2 hu hv => by
    have := hv.v_out
    subst this
    have := hu.v_out
    subst this
    refine exec_eq ho h1 h2 ?_ (run_eql_nil_nil_at w t h)
    cases x <;> rfl
/-- The frame that is nought. -/
abbrev frZ : List AV := frN 0 0 0 0 0 0 0 0 0 0
theorem def_pan3 (e : Int) (a1 a2 a3 a4 a5 a6 a7 a8 a9 a10 a11 a12 a13 a14 : D) (z : AObj) : DefRun Try.prog 32 [.ptr 0 0, .ptr 1 0] (panM (fltV e)) (recM (fltV e))
    [.cells [.d a1, .d a2, .d a3, .d a4, .d a5, .d a6, .d a7, .d a8, .d a9, .d a10, .d a11, .d a12, .d a13, .d a14], .cells [iA 0], z] [.cells frZ, .cells [iA e], .dead] := by
  refine defRun_of_vc (T := tiOf Try.prog) (E := E0) Try.func32 rfl rfl hE0 hm0 rfl rfl rfl rfl (.inl ⟨rfl, rfl⟩) rfl ?_
  conv => whnf
  iterate 6
    repeat' (first | exact True.intro | ((first | refine And.intro (fun _ => ?_) tf | refine And.intro ft (fun _ => ?_) | refine And.intro (by kernel_rfl) ?_ | refine And.intro (by decide) ?_ | refine And.intro (fun _ => ?_) (fun h => absurd h (by decide)) | refine And.intro (fun h => absurd h (by decide)) (fun _ => ?_) | refine ⟨_, _, eqI e (by kernel_rfl), ?_⟩ | refine ⟨_, _, taF e, ?_⟩ | fail); conv => whnf) | (refine And.intro (fun _ => ?_) (fun _ => ?_) <;> conv => whnf) | fail)
    all_goals try (refine Or.inl ?_; conv => whnf)
  all_goals try (exfalso; simp only [decide_eq_true_eq, decide_eq_false_iff_not, Bool.not_eq_true', Bool.not_eq_false', Bool.not_eq_true, Bool.not_eq_false, beq_iff_eq, bne_iff_ne, beq_eq_false_iff_ne, bne_eq_false_iff_eq, ne_eq, Decidable.not_not] at *; first | omega | contradiction | (simp_all; done) | (simp_all; omega))
  all_goals refine ⟨[], ?_⟩
  repeat (any_goals (first | exact True.intro | exact rfl | with_reducible_and_instances rfl | exact (by kernel_rfl) | refine And.intro ?_ ?_))
  all_goals conv => whnf
theorem def_pan4 (e : Int) (a1 a2 a3 a4 a5 a6 a7 a8 a9 a10 a11 a12 a13 a14 : D) (z u : AObj) : DefRun Try.prog 32 [.ptr 0 0, .ptr 1 0] (panM (fltV e)) (recM (fltV e))
    [.cells [.d a1, .d a2, .d a3, .d a4, .d a5, .d a6, .d a7, .d a8, .d a9, .d a10, .d a11, .d a12, .d a13, .d a14], .cells [iA 0], z, u] [.cells frZ, .cells [iA e], .dead, .dead] := by
  refine defRun_of_vc (T := tiOf Try.prog) (E := E0) Try.func32 rfl rfl hE0 hm0 rfl rfl rfl rfl (.inl ⟨rfl, rfl⟩) rfl ?_
  conv => whnf
  iterate 6
    repeat' (first | exact True.intro | ((first | refine And.intro (fun _ => ?_) tf | refine And.intro ft (fun _ => ?_) | refine And.intro (by kernel_rfl) ?_ | refine And.intro (by decide) ?_ | refine And.intro (fun _ => ?_) (fun h => absurd h (by decide)) | refine And.intro (fun h => absurd h (by decide)) (fun _ => ?_) | refine ⟨_, _, eqI e (by kernel_rfl), ?_⟩ | refine ⟨_, _, taF e, ?_⟩ | fail); conv => whnf) | (refine And.intro (fun _ => ?_) (fun _ => ?_) <;> conv => whnf) | fail)
    all_goals try (refine Or.inl ?_; conv => whnf)
  all_goals try (exfalso; simp only [decide_eq_true_eq, decide_eq_false_iff_not, Bool.not_eq_true', Bool.not_eq_false', Bool.not_eq_true, Bool.not_eq_false, beq_iff_eq, bne_iff_ne, beq_eq_false_iff_ne, bne_eq_false_iff_eq, ne_eq, Decidable.not_not] at *; first | omega | contradiction | (simp_all; done) | (simp_all; omega))
  all_goals refine ⟨[], ?_⟩
  repeat (any_goals (first | exact True.intro | exact rfl | with_reducible_and_instances rfl | exact (by kernel_rfl) | refine And.intro ?_ ?_))
  all_goals conv => whnf
end Go.Proofs.Ytfbfpnfgabamfaa
