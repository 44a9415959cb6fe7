/- Parts FrL, FrM, FrO of the proof, put together. -/
import Derived.Test.YtfbfpnfgabamfaaGreatM11
import Derived.Stop.IfaceNil
namespace Go.Proofs.YtfbfpnfgabamfaaGreat
set_option linter.unusedSimpArgs false
open Go.RowKit
set_option maxRecDepth 100000
set_option linter.unusedVariables false
set_option maxHeartbeats 8000000 in
theorem encode_5 (f : Fr) (hk : f.k = 5) (hf : FrOk f) (hz : ∀ x ∈ f.ev, in64 x.2.1) (hr : rightK f 5 = true) (hL : (sealT (frT f 5)).length ≤ 65536) : Sat Tryz.prog 26 [.d (frD f)] [] (.tup [.own 0, iA 0]) [.sl 1 ((sealT (frT f 5)).map bR)] := by
  have f1 := fields_f f 5 hk (by decide) (by decide)
  have r1 := right_sat f hf
  have hrf : rightF f = true := by unfold rightF; rw [if_pos (by omega), hk]; exact hr
  rw [hrf] at r1
  obtain ⟨hho, hv, hx, _⟩ := right_parts hr
  have hx : batchB f.n f.ev = true := hx
  simp only [batchB, Bool.and_eq_true, decide_eq_true_eq] at hx
  obtain ⟨hn1, hn2, hn3, hn4⟩ := hx
  have hev : ∀ x ∈ f.ev, 0 ≤ x.1 ∧ x.1 ≤ 4611686018427387903 := fun x hx => by
    have := List.all_eq_true.1 hn4 x hx
    simp only [evOk, Bool.and_eq_true] at this
    exact rngB_iff.1 this.1
  have hll : (f.ev.map evR).length = f.ev.length := List.length_map _
  have u0 : Sat Tryz.prog 56 [.d (.sl 1 [[.v (.int .u64 (IntKind.u64.wrap 5))]])] [] (.own 0) [.sl 1 ((enc 5).map bR)] := uintsZ 5 (by decide) (by decide)
  have u9 : Sat Tryz.prog 56 [.d (.sl 1 [[.v (.int .u64 (IntKind.u64.wrap ((f.ev.map evR).length : Int)))]])] [] (.own 0) [.sl 1 ((enc f.ev.length).map bR)] := by
    have := uintsZ ((f.ev.map evR).length : Int) (by omega) (by omega)
    rw [Int.toNat_natCast, hll] at this
    rw [hll]
    exact this
  have hv' : ∀ x ∈ valsK f 5, Sat Tryz.prog 56 [.d (.sl 1 [[.v (.int .u64 (IntKind.u64.wrap x))]])] [] (.own 0) [.sl 1 ((enc x.toNat).map bR)] := fun x hx => uintsZ x (hv x hx).1 (by have := (hv x hx).2; omega)
  have hle : ∀ i, (enc 5 ++ fldT ((valsK f 5).take i)).length ≤ 1000 := fun i => by
    have h1 := fldT_len ((valsK f 5).take i)
    have h2 := valsK_len f 5
    have h3 := enc_lens 5
    rw [List.length_take] at h1
    rw [List.length_append]; omega
  have hap : ∀ i (x : Int), (enc 5 ++ fldT ((valsK f 5).take i)).length + (enc x.toNat).length ≤ 100000000000 := fun i x => by
    have h1 := hle i
    have h2 := enc_lens x.toNat
    omega
  have hn5 := enc_lens f.ev.length
  have hT : frT f 5 = (enc 5 ++ fldT ((valsK f 5).take 3)) ++ enc f.ev.length ++ evsT f.ev := by
    simp [frT, extT, valsK, idxK, fldT]
  have hT5 := frT_len5 f
  have ss := seal_sat (frT f 5) (by omega)
  have hsz : ((sealT (frT f 5)).map bR).length = (sealT (frT f 5)).length := List.length_map _
  have d9 : decide (((((frT f 5) ++ le4 (sumN (frT f 5))).map bR).length : Int) > 65536) = false := decide_eq_false (by have : (((frT f 5) ++ le4 (sumN (frT f 5))).map bR).length = (sealT (frT f 5)).length := hsz; omega)
  have hB : ((enc 5 ++ fldT ((valsK f 5).take 3)) ++ enc f.ev.length).length ≤ 1010 := by
    have := hle 3
    rw [List.length_append]; omega
  have hBi : ∀ i, (((enc 5 ++ fldT ((valsK f 5).take 3)) ++ enc f.ev.length) ++ evsT (f.ev.take i)).length ≤ 200000 := fun i => by
    have := evsT_len (f.ev.take i)
    rw [List.length_take] at this
    rw [List.length_append]; omega
  have h9 : (enc 5 ++ fldT ((valsK f 5).take 3)).length + (enc f.ev.length).length ≤ 100000000000 := by
    have := hle 3
    omega
  unfold sealT at hL ⊢
  rw [hT] at ss d9 ⊢
  clear hL hsz hT5
  obtain ⟨kk, a, e, b, c, g, s, n, t, w, ev, sr, d⟩ := f
  have hk : kk = 5 := hk
  subst hk
  refine sat_of_vc (T := tiOf Tryz.prog) (E := E0) Tryz.func26 rfl rfl hE0 hm0 rfl ?_
  conv => whnf
  iterate 5
    repeat' (first | exact True.intro | ((first | refine Yb fun _ => ?_ | refine Yc fun _ => ?_ | refine Ya (by kernel_rfl) ?_ | refine Ya (by decide) ?_ | refine Yd (by decide) fun _ => ?_ | refine Ye (by decide) fun _ => ?_ | refine ⟨_, _, r1.pu rfl rfl, ?_⟩ | refine ⟨_, _, lendON u0 rfl (bR_flats _), ?_⟩ | refine ⟨_, _, f1.at1 0 rfl rfl rfl, ?_⟩ | refine ⟨_, _, lenP (by kernel_rfl), ?_⟩); conv => whnf) | (refine Ya (fun _ => ?_) (fun _ => ?_) <;> conv => whnf))
    all_goals try (refine Or.inl ?_; conv => whnf)
  all_goals try (exfalso; simp only [outL] at *; first | omega | contradiction | (simp_all; done) | (simp_all; omega))
  refine ⟨Nat, fun i => i ≤ 3, fun i => ([(20, iA i), (19, iA 3), (18, .rel 1 (slP 3)), (4, .own 2), (1, .ptr 0 0)], [.cells (frA ⟨5, a, e, b, c, g, s, n, t, w, ev, sr, d⟩), .cells (ptrsK 5), .sl 1 ((enc 5 ++ fldT ((valsK ⟨5, a, e, b, c, g, s, n, t, w, ev, sr, d⟩ 5).take i)).map bR)]), fun i => 3 - i, ⟨0, Nat.zero_le _, ?_⟩, ?_⟩
  · all_goals refine ⟨[(1, 3)], ?_⟩
    repeat (any_goals (first | exact True.intro | exact rfl | exact (by kernel_rfl) | refine Ya ?_ ?_))
    all_goals conv => whnf
  intro i hi
  have hi : i ≤ 3 := hi
  obtain rfl | rfl | rfl | rfl : i = 0 ∨ i = 1 ∨ i = 2 ∨ i = 3 := by omega
  · have u1 := hv' a (by simp [valsK, idxK, getN])
    conv => whnf
    iterate 6
      repeat' (first | exact True.intro | ((first | refine Yb fun _ => ?_ | refine Yc fun _ => ?_ | refine Ya (by kernel_rfl) ?_ | refine Ya (by decide) ?_ | refine Yd (by decide) fun _ => ?_ | refine Ye (by decide) fun _ => ?_ | refine ⟨_, _, ixP (by kernel_rfl) (by kernel_rfl) (by decide), ?_⟩ | refine ⟨_, _, lendON u1 rfl (bR_flats _), ?_⟩ | refine ⟨_, _, apx rfl rfl (hap 0 a), ?_⟩); conv => whnf) | (refine Ya (fun _ => ?_) (fun _ => ?_) <;> conv => whnf))
      all_goals try (refine Or.inl ?_; conv => whnf)
    all_goals try (exfalso; simp only [outL] at *; first | omega | contradiction | (simp_all; done) | (simp_all; omega))
    refine ⟨1, by decide, by decide, ?_⟩
    all_goals refine ⟨[(2, 5)], ?_⟩
    repeat (any_goals (first | exact True.intro | exact rfl | exact (by kernel_rfl) | refine Ya ?_ ?_))
    all_goals conv => whnf
    all_goals exact congrArg (fun l => AObj.sl 1 (List.map bR l)) (by simp [fldT, valsK, idxK, getN])
  · have u1 := hv' e (by simp [valsK, idxK, getN])
    conv => whnf
    iterate 6
      repeat' (first | exact True.intro | ((first | refine Yb fun _ => ?_ | refine Yc fun _ => ?_ | refine Ya (by kernel_rfl) ?_ | refine Ya (by decide) ?_ | refine Yd (by decide) fun _ => ?_ | refine Ye (by decide) fun _ => ?_ | refine ⟨_, _, ixP (by kernel_rfl) (by kernel_rfl) (by decide), ?_⟩ | refine ⟨_, _, lendON u1 rfl (bR_flats _), ?_⟩ | refine ⟨_, _, apx rfl rfl (hap 1 e), ?_⟩); conv => whnf) | (refine Ya (fun _ => ?_) (fun _ => ?_) <;> conv => whnf))
      all_goals try (refine Or.inl ?_; conv => whnf)
    all_goals try (exfalso; simp only [outL] at *; first | omega | contradiction | (simp_all; done) | (simp_all; omega))
    refine ⟨2, by decide, by decide, ?_⟩
    all_goals refine ⟨[(2, 5)], ?_⟩
    repeat (any_goals (first | exact True.intro | exact rfl | exact (by kernel_rfl) | refine Ya ?_ ?_))
    all_goals conv => whnf
    all_goals exact congrArg (fun l => AObj.sl 1 (List.map bR l)) (by simp [fldT, valsK, idxK, getN])
  · have u1 := hv' n (by simp [valsK, idxK, getN])
    conv => whnf
    iterate 6
      repeat' (first | exact True.intro | ((first | refine Yb fun _ => ?_ | refine Yc fun _ => ?_ | refine Ya (by kernel_rfl) ?_ | refine Ya (by decide) ?_ | refine Yd (by decide) fun _ => ?_ | refine Ye (by decide) fun _ => ?_ | refine ⟨_, _, ixP (by kernel_rfl) (by kernel_rfl) (by decide), ?_⟩ | refine ⟨_, _, lendON u1 rfl (bR_flats _), ?_⟩ | refine ⟨_, _, apx rfl rfl (hap 2 n), ?_⟩); conv => whnf) | (refine Ya (fun _ => ?_) (fun _ => ?_) <;> conv => whnf))
      all_goals try (refine Or.inl ?_; conv => whnf)
    all_goals try (exfalso; simp only [outL] at *; first | omega | contradiction | (simp_all; done) | (simp_all; omega))
    refine ⟨3, by decide, by decide, ?_⟩
    all_goals refine ⟨[(2, 5)], ?_⟩
    repeat (any_goals (first | exact True.intro | exact rfl | exact (by kernel_rfl) | refine Ya ?_ ?_))
    all_goals conv => whnf
    all_goals exact congrArg (fun l => AObj.sl 1 (List.map bR l)) (by simp [fldT, valsK, idxK, getN])
  conv => whnf
  iterate 6
    repeat' (first | exact True.intro | ((first | refine Yb fun _ => ?_ | refine Yc fun _ => ?_ | refine Ya (by kernel_rfl) ?_ | refine Ya (by decide) ?_ | refine Yd (by decide) fun _ => ?_ | refine Ye (by decide) fun _ => ?_ | refine ⟨_, _, lendON u9 (by kernel_rfl) (bR_flats _), ?_⟩ | refine ⟨_, _, apx rfl rfl h9, ?_⟩); conv => whnf) | (refine Ya (fun _ => ?_) (fun _ => ?_) <;> conv => whnf))
    all_goals try (refine Or.inl ?_; conv => whnf)
  all_goals try (exfalso; simp only [outL] at *; first | omega | contradiction | (simp_all; done) | (simp_all; omega))
  generalize hB0 : (enc 5 ++ fldT ((valsK ⟨5, a, e, b, c, g, s, n, t, w, ev, sr, d⟩ 5).take 3)) ++ enc (Fr.ev ⟨5, a, e, b, c, g, s, n, t, w, ev, sr, d⟩).length = B0 at *
  obtain ⟨st, hst0, hst1⟩ : ∃ st : Nat → List (Nat × AV) × List AObj, (∀ i, i < ev.length → st i = ([(49, iA i), (48, iA (ev.map evR).length), (47, .d (.sl 4 (ev.map evR))), (35, iA 5), (4, .own 1), (1, .ptr 0 0)], [.cells (frA ⟨5, a, e, b, c, g, s, n, t, w, ev, sr, d⟩), .sl 1 ((B0 ++ evsT (ev.take i)).map bR)])) ∧
      st ev.length = ([(49, iA ev.length), (48, iA (ev.map evR).length), (47, .d (.sl 4 (ev.map evR))), (35, iA 5), (4, .d (bsD (B0 ++ evsT ev))), (1, .ptr 0 0)], [.cells (frA ⟨5, a, e, b, c, g, s, n, t, w, ev, sr, d⟩)]) :=
    ⟨fun i => if i < ev.length then _ else _, fun i h => if_pos h, if_neg (Nat.lt_irrefl _)⟩
  refine ⟨Nat, fun i => i ≤ ev.length, st, fun i => ev.length - i, ⟨0, Nat.zero_le _, ?_⟩, ?_⟩
  · rw [hst0 0 hn1]
    all_goals refine ⟨[(1, 5)], ?_⟩
    repeat (any_goals (first | exact True.intro | exact rfl | exact (by kernel_rfl) | refine Ya ?_ ?_))
    all_goals conv => whnf
    exact congrArg (fun l => AObj.sl 1 (List.map bR l)) (by simp [evsT])
  have hn2 : ev.length ≤ 64 := hn2
  intro i hi
  have hi : i ≤ ev.length := hi
  by_cases hlt : i < ev.length
  · rw [hst0 i hlt]
    have hx : ev[i]? = some ev[i] := List.getElem?_eq_getElem hlt
    generalize ev[i] = x at hx
    have hm := List.mem_of_getElem? hx
    have hgx := map_get (f := evR) hx
    have d1 : decide ((i : Int) < ((ev.map evR).length : Nat)) = true := decide_eq_true (by rw [List.length_map]; omega)
    have u1 := uintsZ x.1 (hev x hm).1 (by have := (hev x hm).2; omega)
    have i1 := ints1 x.2.1 (hz x hm)
    have b1 := bytes_satS x.2.2
    have l1 := enc_lens x.1.toNat
    have l2 := enc_lens (turnN x.2.1)
    have l3 := serT_len x.2.2
    have hbi : (B0 ++ evsT (ev.take i)).length ≤ 200000 := hBi i
    have p1 : (B0 ++ evsT (ev.take i)).length + (enc x.1.toNat).length ≤ 100000000000 := by omega
    have p2 : ((B0 ++ evsT (ev.take i)) ++ enc x.1.toNat).length + (enc (turnN x.2.1)).length ≤ 100000000000 := by
      rw [List.length_append (bs := enc x.1.toNat)]; omega
    have p3 : (((B0 ++ evsT (ev.take i)) ++ enc x.1.toNat) ++ enc (turnN x.2.1)).length + (bytesS x.2.2).length ≤ 100000000000 := by
      rw [List.length_append (bs := enc (turnN x.2.1)), List.length_append (bs := enc x.1.toNat)]; omega
    conv => whnf
    iterate 6
      repeat' (first | exact True.intro | ((first | refine ⟨i, _, rfl, hgx, ?_⟩ | refine Yb fun _ => ?_ | refine Yc fun _ => ?_ | refine Ya (by kernel_rfl) ?_ | refine Ya (by decide) ?_ | refine Yd (by decide) fun _ => ?_ | refine Ye (by decide) fun _ => ?_ | refine ⟨_, _, lendON u1 (by kernel_rfl) (bR_flats _), ?_⟩ | refine ⟨_, _, apx rfl rfl p1, ?_⟩ | refine ⟨_, _, lendON i1 (by kernel_rfl) (bR_flats _), ?_⟩ | refine ⟨_, _, apx rfl rfl p2, ?_⟩ | refine ⟨_, _, b1.pu rfl rfl, ?_⟩ | refine ⟨_, _, apxd rfl p3, ?_⟩); conv => whnf) | (refine Ya (fun _ => ?_) (fun _ => ?_) <;> conv => whnf))
      all_goals try (refine Or.inl ?_; conv => whnf)
    all_goals try exact (bnl d1 ‹_›).elim
    refine ⟨i + 1, hlt, show ev.length - (i + 1) < ev.length - i by omega, ?_⟩
    by_cases hq : i + 1 < ev.length
    · rw [hst0 _ hq]
      all_goals refine ⟨[(1, 9)], ?_⟩
      repeat (any_goals (first | exact True.intro | exact rfl | exact (by kernel_rfl) | refine Ya ?_ ?_))
      all_goals conv => whnf
      · exact wk1 (by omega)
      · exact congrArg (fun l => AObj.sl 1 (List.map bR l)) (by rw [evsT_next hx]; simp [evT])
    · have e : ev.length = i + 1 := by omega
      have e2 : evsT ev = evsT (ev.take (i + 1)) := by rw [List.take_of_length_le (by omega)]
      rw [show st (i + 1) = st ev.length from by rw [e], hst1]
      all_goals refine ⟨[], ?_⟩
      repeat (any_goals (first | exact True.intro | exact rfl | exact (by kernel_rfl) | refine Ya ?_ ?_))
      all_goals conv => whnf
      · rw [e]; exact wk1 (by omega)
      · have e3 : B0 ++ evsT (ev.take i) ++ enc x.1.toNat ++ enc (turnN x.2.1) ++ bytesS x.2.2 = B0 ++ evsT ev := by rw [e2, evsT_next hx]; simp [evT]
        first | exact congrArg (fun l => AV.d (D.sl 1 (List.map bR l))) e3 | exact congrArg (fun l => D.sl 1 (List.map bR l)) e3 | exact congrArg (fun l => AObj.sl 1 (List.map bR l)) e3
  · have d1 : decide ((i : Int) < ((ev.map evR).length : Nat)) = false := decide_eq_false (by rw [List.length_map]; omega)
    obtain rfl : i = ev.length := by omega
    rw [hst1]
    conv => whnf
    iterate 6
      repeat' (first | exact True.intro | ((first | refine Yb fun _ => ?_ | refine Yc fun _ => ?_ | refine Ya (by kernel_rfl) ?_ | refine Ya (by decide) ?_ | refine Yd (by decide) fun _ => ?_ | refine Ye (by decide) fun _ => ?_ | refine ⟨_, _, lendON ss (by kernel_rfl) (bR_flats _), ?_⟩); conv => whnf) | (refine Ya (fun _ => ?_) (fun _ => ?_) <;> conv => whnf))
      all_goals try (refine Or.inl ?_; conv => whnf)
    all_goals try exact (bnl ‹_› d1).elim
    all_goals try exact (bnl ‹_› d9).elim
    all_goals refine ⟨[(0, 2)], ?_⟩
    repeat (any_goals (first | exact True.intro | exact rfl | exact (by kernel_rfl) | refine Ya ?_ ?_))
    all_goals conv => whnf
set_option maxHeartbeats 8000000 in
theorem encode_5b (f : Fr) (hk : f.k = 5) (hf : FrOk f) (hz : ∀ x ∈ f.ev, in64 x.2.1) (hr : rightK f 5 = true) (hL : 65536 < (sealT (frT f 5)).length) : Sat Tryz.prog 26 [.d (frD f)] [] (.tup [.d nilV, iA 17]) [] := by
  have f1 := fields_f f 5 hk (by decide) (by decide)
  have r1 := right_sat f hf
  have hrf : rightF f = true := by unfold rightF; rw [if_pos (by omega), hk]; exact hr
  rw [hrf] at r1
  obtain ⟨hho, hv, hx, _⟩ := right_parts hr
  have hx : batchB f.n f.ev = true := hx
  simp only [batchB, Bool.and_eq_true, decide_eq_true_eq] at hx
  obtain ⟨hn1, hn2, hn3, hn4⟩ := hx
  have hev : ∀ x ∈ f.ev, 0 ≤ x.1 ∧ x.1 ≤ 4611686018427387903 := fun x hx => by
    have := List.all_eq_true.1 hn4 x hx
    simp only [evOk, Bool.and_eq_true] at this
    exact rngB_iff.1 this.1
  have hll : (f.ev.map evR).length = f.ev.length := List.length_map _
  have u0 : Sat Tryz.prog 56 [.d (.sl 1 [[.v (.int .u64 (IntKind.u64.wrap 5))]])] [] (.own 0) [.sl 1 ((enc 5).map bR)] := uintsZ 5 (by decide) (by decide)
  have u9 : Sat Tryz.prog 56 [.d (.sl 1 [[.v (.int .u64 (IntKind.u64.wrap ((f.ev.map evR).length : Int)))]])] [] (.own 0) [.sl 1 ((enc f.ev.length).map bR)] := by
    have := uintsZ ((f.ev.map evR).length : Int) (by omega) (by omega)
    rw [Int.toNat_natCast, hll] at this
    rw [hll]
    exact this
  have hv' : ∀ x ∈ valsK f 5, Sat Tryz.prog 56 [.d (.sl 1 [[.v (.int .u64 (IntKind.u64.wrap x))]])] [] (.own 0) [.sl 1 ((enc x.toNat).map bR)] := fun x hx => uintsZ x (hv x hx).1 (by have := (hv x hx).2; omega)
  have hle : ∀ i, (enc 5 ++ fldT ((valsK f 5).take i)).length ≤ 1000 := fun i => by
    have h1 := fldT_len ((valsK f 5).take i)
    have h2 := valsK_len f 5
    have h3 := enc_lens 5
    rw [List.length_take] at h1
    rw [List.length_append]; omega
  have hap : ∀ i (x : Int), (enc 5 ++ fldT ((valsK f 5).take i)).length + (enc x.toNat).length ≤ 100000000000 := fun i x => by
    have h1 := hle i
    have h2 := enc_lens x.toNat
    omega
  have hn5 := enc_lens f.ev.length
  have hT : frT f 5 = (enc 5 ++ fldT ((valsK f 5).take 3)) ++ enc f.ev.length ++ evsT f.ev := by
    simp [frT, extT, valsK, idxK, fldT]
  have hT5 := frT_len5 f
  have ss := seal_sat (frT f 5) (by omega)
  have hsz : ((sealT (frT f 5)).map bR).length = (sealT (frT f 5)).length := List.length_map _
  have d9 : decide (((((frT f 5) ++ le4 (sumN (frT f 5))).map bR).length : Int) > 65536) = true := decide_eq_true (by have : (((frT f 5) ++ le4 (sumN (frT f 5))).map bR).length = (sealT (frT f 5)).length := hsz; omega)
  have hB : ((enc 5 ++ fldT ((valsK f 5).take 3)) ++ enc f.ev.length).length ≤ 1010 := by
    have := hle 3
    rw [List.length_append]; omega
  have hBi : ∀ i, (((enc 5 ++ fldT ((valsK f 5).take 3)) ++ enc f.ev.length) ++ evsT (f.ev.take i)).length ≤ 200000 := fun i => by
    have := evsT_len (f.ev.take i)
    rw [List.length_take] at this
    rw [List.length_append]; omega
  have h9 : (enc 5 ++ fldT ((valsK f 5).take 3)).length + (enc f.ev.length).length ≤ 100000000000 := by
    have := hle 3
    omega
  unfold sealT at hL
  rw [hT] at ss d9
  clear hL hsz hT5
  obtain ⟨kk, a, e, b, c, g, s, n, t, w, ev, sr, d⟩ := f
  have hk : kk = 5 := hk
  subst hk
  refine sat_of_vc (T := tiOf Tryz.prog) (E := E0) Tryz.func26 rfl rfl hE0 hm0 rfl ?_
  conv => whnf
  iterate 5
    repeat' (first | exact True.intro | ((first | refine Yb fun _ => ?_ | refine Yc fun _ => ?_ | refine Ya (by kernel_rfl) ?_ | refine Ya (by decide) ?_ | refine Yd (by decide) fun _ => ?_ | refine Ye (by decide) fun _ => ?_ | refine ⟨_, _, r1.pu rfl rfl, ?_⟩ | refine ⟨_, _, lendON u0 rfl (bR_flats _), ?_⟩ | refine ⟨_, _, f1.at1 0 rfl rfl rfl, ?_⟩ | refine ⟨_, _, lenP (by kernel_rfl), ?_⟩); conv => whnf) | (refine Ya (fun _ => ?_) (fun _ => ?_) <;> conv => whnf))
    all_goals try (refine Or.inl ?_; conv => whnf)
  all_goals try (exfalso; simp only [outL] at *; first | omega | contradiction | (simp_all; done) | (simp_all; omega))
  refine ⟨Nat, fun i => i ≤ 3, fun i => ([(20, iA i), (19, iA 3), (18, .rel 1 (slP 3)), (4, .own 2), (1, .ptr 0 0)], [.cells (frA ⟨5, a, e, b, c, g, s, n, t, w, ev, sr, d⟩), .cells (ptrsK 5), .sl 1 ((enc 5 ++ fldT ((valsK ⟨5, a, e, b, c, g, s, n, t, w, ev, sr, d⟩ 5).take i)).map bR)]), fun i => 3 - i, ⟨0, Nat.zero_le _, ?_⟩, ?_⟩
  · all_goals refine ⟨[(1, 3)], ?_⟩
    repeat (any_goals (first | exact True.intro | exact rfl | exact (by kernel_rfl) | refine Ya ?_ ?_))
    all_goals conv => whnf
  intro i hi
  have hi : i ≤ 3 := hi
  obtain rfl | rfl | rfl | rfl : i = 0 ∨ i = 1 ∨ i = 2 ∨ i = 3 := by omega
  · have u1 := hv' a (by simp [valsK, idxK, getN])
    conv => whnf
    iterate 6
      repeat' (first | exact True.intro | ((first | refine Yb fun _ => ?_ | refine Yc fun _ => ?_ | refine Ya (by kernel_rfl) ?_ | refine Ya (by decide) ?_ | refine Yd (by decide) fun _ => ?_ | refine Ye (by decide) fun _ => ?_ | refine ⟨_, _, ixP (by kernel_rfl) (by kernel_rfl) (by decide), ?_⟩ | refine ⟨_, _, lendON u1 rfl (bR_flats _), ?_⟩ | refine ⟨_, _, apx rfl rfl (hap 0 a), ?_⟩); conv => whnf) | (refine Ya (fun _ => ?_) (fun _ => ?_) <;> conv => whnf))
      all_goals try (refine Or.inl ?_; conv => whnf)
    all_goals try (exfalso; simp only [outL] at *; first | omega | contradiction | (simp_all; done) | (simp_all; omega))
    refine ⟨1, by decide, by decide, ?_⟩
    all_goals refine ⟨[(2, 5)], ?_⟩
    repeat (any_goals (first | exact True.intro | exact rfl | exact (by kernel_rfl) | refine Ya ?_ ?_))
    all_goals conv => whnf
    all_goals exact congrArg (fun l => AObj.sl 1 (List.map bR l)) (by simp [fldT, valsK, idxK, getN])
  · have u1 := hv' e (by simp [valsK, idxK, getN])
    conv => whnf
    iterate 6
      repeat' (first | exact True.intro | ((first | refine Yb fun _ => ?_ | refine Yc fun _ => ?_ | refine Ya (by kernel_rfl) ?_ | refine Ya (by decide) ?_ | refine Yd (by decide) fun _ => ?_ | refine Ye (by decide) fun _ => ?_ | refine ⟨_, _, ixP (by kernel_rfl) (by kernel_rfl) (by decide), ?_⟩ | refine ⟨_, _, lendON u1 rfl (bR_flats _), ?_⟩ | refine ⟨_, _, apx rfl rfl (hap 1 e), ?_⟩); conv => whnf) | (refine Ya (fun _ => ?_) (fun _ => ?_) <;> conv => whnf))
      all_goals try (refine Or.inl ?_; conv => whnf)
    all_goals try (exfalso; simp only [outL] at *; first | omega | contradiction | (simp_all; done) | (simp_all; omega))
    refine ⟨2, by decide, by decide, ?_⟩
    all_goals refine ⟨[(2, 5)], ?_⟩
    repeat (any_goals (first | exact True.intro | exact rfl | exact (by kernel_rfl) | refine Ya ?_ ?_))
    all_goals conv => whnf
    all_goals exact congrArg (fun l => AObj.sl 1 (List.map bR l)) (by simp [fldT, valsK, idxK, getN])
  · have u1 := hv' n (by simp [valsK, idxK, getN])
    conv => whnf
    iterate 6
      repeat' (first | exact True.intro | ((first | refine Yb fun _ => ?_ | refine Yc fun _ => ?_ | refine Ya (by kernel_rfl) ?_ | refine Ya (by decide) ?_ | refine Yd (by decide) fun _ => ?_ | refine Ye (by decide) fun _ => ?_ | refine ⟨_, _, ixP (by kernel_rfl) (by kernel_rfl) (by decide), ?_⟩ | refine ⟨_, _, lendON u1 rfl (bR_flats _), ?_⟩ | refine ⟨_, _, apx rfl rfl (hap 2 n), ?_⟩); conv => whnf) | (refine Ya (fun _ => ?_) (fun _ => ?_) <;> conv => whnf))
      all_goals try (refine Or.inl ?_; conv => whnf)
    all_goals try (exfalso; simp only [outL] at *; first | omega | contradiction | (simp_all; done) | (simp_all; omega))
    refine ⟨3, by decide, by decide, ?_⟩
    all_goals refine ⟨[(2, 5)], ?_⟩
    repeat (any_goals (first | exact True.intro | exact rfl | exact (by kernel_rfl) | refine Ya ?_ ?_))
    all_goals conv => whnf
    all_goals exact congrArg (fun l => AObj.sl 1 (List.map bR l)) (by simp [fldT, valsK, idxK, getN])
  conv => whnf
  iterate 6
    repeat' (first | exact True.intro | ((first | refine Yb fun _ => ?_ | refine Yc fun _ => ?_ | refine Ya (by kernel_rfl) ?_ | refine Ya (by decide) ?_ | refine Yd (by decide) fun _ => ?_ | refine Ye (by decide) fun _ => ?_ | refine ⟨_, _, lendON u9 (by kernel_rfl) (bR_flats _), ?_⟩ | refine ⟨_, _, apx rfl rfl h9, ?_⟩); conv => whnf) | (refine Ya (fun _ => ?_) (fun _ => ?_) <;> conv => whnf))
    all_goals try (refine Or.inl ?_; conv => whnf)
  all_goals try (exfalso; simp only [outL] at *; first | omega | contradiction | (simp_all; done) | (simp_all; omega))
  generalize hB0 : (enc 5 ++ fldT ((valsK ⟨5, a, e, b, c, g, s, n, t, w, ev, sr, d⟩ 5).take 3)) ++ enc (Fr.ev ⟨5, a, e, b, c, g, s, n, t, w, ev, sr, d⟩).length = B0 at *
  obtain ⟨st, hst0, hst1⟩ : ∃ st : Nat → List (Nat × AV) × List AObj, (∀ i, i < ev.length → st i = ([(49, iA i), (48, iA (ev.map evR).length), (47, .d (.sl 4 (ev.map evR))), (35, iA 5), (4, .own 1), (1, .ptr 0 0)], [.cells (frA ⟨5, a, e, b, c, g, s, n, t, w, ev, sr, d⟩), .sl 1 ((B0 ++ evsT (ev.take i)).map bR)])) ∧
      st ev.length = ([(49, iA ev.length), (48, iA (ev.map evR).length), (47, .d (.sl 4 (ev.map evR))), (35, iA 5), (4, .d (bsD (B0 ++ evsT ev))), (1, .ptr 0 0)], [.cells (frA ⟨5, a, e, b, c, g, s, n, t, w, ev, sr, d⟩)]) :=
    ⟨fun i => if i < ev.length then _ else _, fun i h => if_pos h, if_neg (Nat.lt_irrefl _)⟩
  refine ⟨Nat, fun i => i ≤ ev.length, st, fun i => ev.length - i, ⟨0, Nat.zero_le _, ?_⟩, ?_⟩
  · rw [hst0 0 hn1]
    all_goals refine ⟨[(1, 5)], ?_⟩
    repeat (any_goals (first | exact True.intro | exact rfl | exact (by kernel_rfl) | refine Ya ?_ ?_))
    all_goals conv => whnf
    exact congrArg (fun l => AObj.sl 1 (List.map bR l)) (by simp [evsT])
  have hn2 : ev.length ≤ 64 := hn2
  intro i hi
  have hi : i ≤ ev.length := hi
  by_cases hlt : i < ev.length
  · rw [hst0 i hlt]
    have hx : ev[i]? = some ev[i] := List.getElem?_eq_getElem hlt
    generalize ev[i] = x at hx
    have hm := List.mem_of_getElem? hx
    have hgx := map_get (f := evR) hx
    have d1 : decide ((i : Int) < ((ev.map evR).length : Nat)) = true := decide_eq_true (by rw [List.length_map]; omega)
    have u1 := uintsZ x.1 (hev x hm).1 (by have := (hev x hm).2; omega)
    have i1 := ints1 x.2.1 (hz x hm)
    have b1 := bytes_satS x.2.2
    have l1 := enc_lens x.1.toNat
    have l2 := enc_lens (turnN x.2.1)
    have l3 := serT_len x.2.2
    have hbi : (B0 ++ evsT (ev.take i)).length ≤ 200000 := hBi i
    have p1 : (B0 ++ evsT (ev.take i)).length + (enc x.1.toNat).length ≤ 100000000000 := by omega
    have p2 : ((B0 ++ evsT (ev.take i)) ++ enc x.1.toNat).length + (enc (turnN x.2.1)).length ≤ 100000000000 := by
      rw [List.length_append (bs := enc x.1.toNat)]; omega
    have p3 : (((B0 ++ evsT (ev.take i)) ++ enc x.1.toNat) ++ enc (turnN x.2.1)).length + (bytesS x.2.2).length ≤ 100000000000 := by
      rw [List.length_append (bs := enc (turnN x.2.1)), List.length_append (bs := enc x.1.toNat)]; omega
    conv => whnf
    iterate 6
      repeat' (first | exact True.intro | ((first | refine ⟨i, _, rfl, hgx, ?_⟩ | refine Yb fun _ => ?_ | refine Yc fun _ => ?_ | refine Ya (by kernel_rfl) ?_ | refine Ya (by decide) ?_ | refine Yd (by decide) fun _ => ?_ | refine Ye (by decide) fun _ => ?_ | refine ⟨_, _, lendON u1 (by kernel_rfl) (bR_flats _), ?_⟩ | refine ⟨_, _, apx rfl rfl p1, ?_⟩ | refine ⟨_, _, lendON i1 (by kernel_rfl) (bR_flats _), ?_⟩ | refine ⟨_, _, apx rfl rfl p2, ?_⟩ | refine ⟨_, _, b1.pu rfl rfl, ?_⟩ | refine ⟨_, _, apxd rfl p3, ?_⟩); conv => whnf) | (refine Ya (fun _ => ?_) (fun _ => ?_) <;> conv => whnf))
      all_goals try (refine Or.inl ?_; conv => whnf)
    all_goals try exact (bnl d1 ‹_›).elim
    refine ⟨i + 1, hlt, show ev.length - (i + 1) < ev.length - i by omega, ?_⟩
    by_cases hq : i + 1 < ev.length
    · rw [hst0 _ hq]
      all_goals refine ⟨[(1, 9)], ?_⟩
      repeat (any_goals (first | exact True.intro | exact rfl | exact (by kernel_rfl) | refine Ya ?_ ?_))
      all_goals conv => whnf
      · exact wk1 (by omega)
      · exact congrArg (fun l => AObj.sl 1 (List.map bR l)) (by rw [evsT_next hx]; simp [evT])
    · have e : ev.length = i + 1 := by omega
      have e2 : evsT ev = evsT (ev.take (i + 1)) := by rw [List.take_of_length_le (by omega)]
      rw [show st (i + 1) = st ev.length from by rw [e], hst1]
      all_goals refine ⟨[], ?_⟩
      repeat (any_goals (first | exact True.intro | exact rfl | exact (by kernel_rfl) | refine Ya ?_ ?_))
      all_goals conv => whnf
      · rw [e]; exact wk1 (by omega)
      · have e3 : B0 ++ evsT (ev.take i) ++ enc x.1.toNat ++ enc (turnN x.2.1) ++ bytesS x.2.2 = B0 ++ evsT ev := by rw [e2, evsT_next hx]; simp [evT]
        first | exact congrArg (fun l => AV.d (D.sl 1 (List.map bR l))) e3 | exact congrArg (fun l => D.sl 1 (List.map bR l)) e3 | exact congrArg (fun l => AObj.sl 1 (List.map bR l)) e3
  · have d1 : decide ((i : Int) < ((ev.map evR).length : Nat)) = false := decide_eq_false (by rw [List.length_map]; omega)
    obtain rfl : i = ev.length := by omega
    rw [hst1]
    conv => whnf
    iterate 6
      repeat' (first | exact True.intro | ((first | refine Yb fun _ => ?_ | refine Yc fun _ => ?_ | refine Ya (by kernel_rfl) ?_ | refine Ya (by decide) ?_ | refine Yd (by decide) fun _ => ?_ | refine Ye (by decide) fun _ => ?_ | refine ⟨_, _, lendON ss (by kernel_rfl) (bR_flats _), ?_⟩); conv => whnf) | (refine Ya (fun _ => ?_) (fun _ => ?_) <;> conv => whnf))
      all_goals try (refine Or.inl ?_; conv => whnf)
    all_goals try exact (bnl ‹_› d1).elim
    all_goals try exact (bnl d9 ‹_›).elim
    all_goals refine ⟨[], ?_⟩
    repeat (any_goals (first | exact True.intro | exact rfl | exact (by kernel_rfl) | refine Ya ?_ ?_))
    all_goals conv => whnf
theorem taF {L : List AObj} {ty n : Nat} {x : Operand} {t : TypeId} (e : Int) : Does Tryz.prog (.typeAssert x t 135 true) ty L n [fltA e] e0 (.tup [.d (.agg [iD e]), bA true]) :=
  does_val fun o w F ρ ev ho _ hx => by
    obtain ⟨v, e', hv⟩ := hx.one_out
    simp [Op.operands] at e'
    have := FlatW.eq (.d (.v _)) hv
    subst this
    have hr : (Instr.typeAssert (fltV e) t 135 true).run Tryz.prog w = .ok (.tuple #[.agg #[.int .i64 e], .bool true]) w := by kernel_rfl
    refine ⟨.tuple #[.agg #[.int .i64 e], .bool true], ?_, ?_⟩
    · simp only [execOp, ho, e']
      simp [hr]
    · exact FlatW.ra (.tup (.cons (.d (.agg (us := [.int .i64 e]) (.cons (.v _) rfl .nil))) (.cons (.d (.v _)) .nil)))
theorem eqI {L : List AObj} {ty n : Nat} {x y : Operand} {t t' : TypeId} (e : Int) (h : Tryz.prog.isIface t = true) : Does Tryz.prog (.binOp .eql t x y t') ty L n [fltA e, .d (.v .nilIface)] e0 (bA false) :=
  does_ra2 rfl fun o w F ρ ev u v ho h1 h2 hu hv => by
    have := hv.v_out
    subst this
    have := hu.v_out
    subst this
    exact exec_eq ho h1 h2 (guard_form _ _ rfl) (run_eql_iface_nil w t h _ _)
theorem eqNI {L : List AObj} {ty n : Nat} {x : Operand} {c : Value} {t t' : TypeId} (h : Tryz.prog.isIface t = true) : Does Tryz.prog (.binOp .eql t x (.const c) t') ty L n [.d (.v .nilIface), .d (.v .nilIface)] e0 (bA true) :=
  does_ra2 rfl fun o w F ρ ev u v ho h1 h2 hu hv => by
    have := hv.v_out
    subst this
    have := hu.v_out
    subst this
    refine exec_eq ho h1 h2 ?_ (run_eql_nil_nil_at w t h)
    cases x <;> rfl
abbrev frZ : List AV := frN 0 0 0 0 0 0 0 0 0 0
theorem def_pan3 (e : Int) (a1 a2 a3 a4 a5 a6 a7 a8 a9 a10 a11 a12 a13 a14 : D) (z : AObj) : DefRun Tryz.prog 83 [.ptr 0 0, .ptr 1 0] (panM (fltV e)) (recM (fltV e))
    [.cells [.d a1, .d a2, .d a3, .d a4, .d a5, .d a6, .d a7, .d a8, .d a9, .d a10, .d a11, .d a12, .d a13, .d a14], .cells [iA 0], z] [.cells frZ, .cells [iA e], .dead] := by
  refine defRun_of_vc (T := tiOf Tryz.prog) (E := E0) Tryz.func83 rfl rfl hE0 hm0 rfl rfl rfl rfl (.inl ⟨rfl, rfl⟩) rfl ?_
  conv => whnf
  iterate 6
    repeat' (first | exact True.intro | ((first | refine Yb fun _ => ?_ | refine Yc fun _ => ?_ | refine Ya (by kernel_rfl) ?_ | refine Ya (by decide) ?_ | refine Yd (by decide) fun _ => ?_ | refine Ye (by decide) fun _ => ?_ | refine ⟨_, _, eqI e (by kernel_rfl), ?_⟩ | refine ⟨_, _, taF e, ?_⟩); conv => whnf) | (refine Ya (fun _ => ?_) (fun _ => ?_) <;> conv => whnf))
    all_goals try (refine Or.inl ?_; conv => whnf)
  all_goals try (exfalso; simp only [outL] at *; first | omega | contradiction | (simp_all; done) | (simp_all; omega))
  all_goals refine ⟨[], ?_⟩
  repeat (any_goals (first | exact True.intro | exact rfl | exact (by kernel_rfl) | refine Ya ?_ ?_))
  all_goals conv => whnf
theorem def_pan4 (e : Int) (a1 a2 a3 a4 a5 a6 a7 a8 a9 a10 a11 a12 a13 a14 : D) (z u : AObj) : DefRun Tryz.prog 83 [.ptr 0 0, .ptr 1 0] (panM (fltV e)) (recM (fltV e))
    [.cells [.d a1, .d a2, .d a3, .d a4, .d a5, .d a6, .d a7, .d a8, .d a9, .d a10, .d a11, .d a12, .d a13, .d a14], .cells [iA 0], z, u] [.cells frZ, .cells [iA e], .dead, .dead] := by
  refine defRun_of_vc (T := tiOf Tryz.prog) (E := E0) Tryz.func83 rfl rfl hE0 hm0 rfl rfl rfl rfl (.inl ⟨rfl, rfl⟩) rfl ?_
  conv => whnf
  iterate 6
    repeat' (first | exact True.intro | ((first | refine Yb fun _ => ?_ | refine Yc fun _ => ?_ | refine Ya (by kernel_rfl) ?_ | refine Ya (by decide) ?_ | refine Yd (by decide) fun _ => ?_ | refine Ye (by decide) fun _ => ?_ | refine ⟨_, _, eqI e (by kernel_rfl), ?_⟩ | refine ⟨_, _, taF e, ?_⟩); conv => whnf) | (refine Ya (fun _ => ?_) (fun _ => ?_) <;> conv => whnf))
    all_goals try (refine Or.inl ?_; conv => whnf)
  all_goals try (exfalso; simp only [outL] at *; first | omega | contradiction | (simp_all; done) | (simp_all; omega))
  all_goals refine ⟨[], ?_⟩
  repeat (any_goals (first | exact True.intro | exact rfl | exact (by kernel_rfl) | refine Ya ?_ ?_))
  all_goals conv => whnf
def frO : Fr := ⟨0, 0, 0, 0, 0, 0, 0, 0, 0, 0, [], ([], []), []⟩
set_option maxHeartbeats 4000000 in
theorem parse_kerr (l : Bt) (hl : l.length ≤ 65536) (h : (uintS (l, 0)).2.2 ≠ 0) : Sat Tryz.prog 49 [.d (bsD l)] [] (.tup [.d (.agg (nilR frO)), iA (uintS (l, 0)).2.2]) [] := by
  have n1 := newG_sat l hl
  have k1 := kind_err (l, 0) hl h
  refine satD_of_vc (T := tiOf Tryz.prog) (E := E0) (gc := 83) (ys := [.ptr 0 0, .ptr 1 0]) PnF Tryz.func49 rfl rfl hE0 hm0 rfl rfl rfl rfl rfl rfl rfl rfl rfl ?_
  conv => whnf
  iterate 4
    repeat' (first | exact True.intro | ((first | refine Or.inr ⟨_, _, k1.at1 2 rfl rfl rfl, ?_⟩ | refine Yb fun _ => ?_ | refine Yc fun _ => ?_ | refine Ya (by kernel_rfl) ?_ | refine Ya (by decide) ?_ | refine Yd (by decide) fun _ => ?_ | refine Ye (by decide) fun _ => ?_ | refine ⟨_, _, n1.nw rfl, ?_⟩); conv => whnf) | (refine Ya (fun _ => ?_) (fun _ => ?_) <;> conv => whnf))
    all_goals try (refine Or.inl ?_; conv => whnf)
  refine ⟨_, def_pan3 _ _ _ _ _ _ _ _ _ _ _ _ _ _ _ _, rfl, ?_⟩
  conv => whnf
  all_goals refine ⟨[], ?_⟩
  repeat (any_goals (first | exact True.intro | exact rfl | exact (by kernel_rfl) | refine Ya ?_ ?_))
  all_goals conv => whnf
set_option maxHeartbeats 4000000 in
theorem parse_kbad (l : Bt) (hl : l.length ≤ 65536) (h0 : (uintS (l, 0)).2.2 = 0) (h : (uintS (l, 0)).1 < 1 ∨ 8 < (uintS (l, 0)).1) : Sat Tryz.prog 49 [.d (bsD l)] [] (.tup [.d (.agg (nilR frO)), iA 16]) [] := by
  have n1 := newG_sat l hl
  have k1 := kind_bad (l, 0) hl h0 h
  refine satD_of_vc (T := tiOf Tryz.prog) (E := E0) (gc := 83) (ys := [.ptr 0 0, .ptr 1 0]) PnF Tryz.func49 rfl rfl hE0 hm0 rfl rfl rfl rfl rfl rfl rfl rfl rfl ?_
  conv => whnf
  iterate 4
    repeat' (first | exact True.intro | ((first | refine Or.inr ⟨_, _, k1.at1 2 rfl rfl rfl, ?_⟩ | refine Yb fun _ => ?_ | refine Yc fun _ => ?_ | refine Ya (by kernel_rfl) ?_ | refine Ya (by decide) ?_ | refine Yd (by decide) fun _ => ?_ | refine Ye (by decide) fun _ => ?_ | refine ⟨_, _, n1.nw rfl, ?_⟩); conv => whnf) | (refine Ya (fun _ => ?_) (fun _ => ?_) <;> conv => whnf))
    all_goals try (refine Or.inl ?_; conv => whnf)
  refine ⟨_, def_pan3 _ _ _ _ _ _ _ _ _ _ _ _ _ _ _ _, rfl, ?_⟩
  conv => whnf
  all_goals refine ⟨[], ?_⟩
  repeat (any_goals (first | exact True.intro | exact rfl | exact (by kernel_rfl) | refine Ya ?_ ?_))
  all_goals conv => whnf
def itS : Nat → Rs → Rs
  | 0, s => s
  | i + 1, s => (uintS (itS i s)).2
def vlS (i : Nat) (s : Rs) : Int := IntKind.i64.wrap ((uintS (itS i s)).1 : Int)
def vbL : List Nat → Nat → Rs → Nat → Int
  | [], _, _, _ => 0
  | j :: r, i, s, p => cond (Nat.beq j p) (vlS i s) (vbL r (i + 1) s p)
abbrev vb (k i : Nat) (s : Rs) (p : Nat) : Int := vbL ((idxK k).take i) 0 s p
def frS (k i : Nat) (s : Rs) (ev : List Evt) (sr : Ser) (d : Bt) : Fr := ⟨k, vb k i s 1, vb k i s 2, vb k i s 3, vb k i s 4, vb k i s 5, vb k i s 6, vb k i s 7, vb k i s 8, vb k i s 9, ev, sr, d⟩
def finP (f : Fr) (s : Rs) : Fr × Nat := if (endS s).2 ≠ 0 then (frO, (endS s).2) else if rightF f = true then (f, 0) else (frO, 10)
def tailP (k : Nat) (s s1 : Rs) : Fr × Nat := match k with
  | 5 => match eventsS s1 with
    | (.error e, _) => (frO, e)
    | (.ok l, s2) => finP (frS 5 3 s l ([], []) []) s2
  | 8 => if (readS s1).2.1 ≠ 0 then (frO, (readS s1).2.1) else if (txtS (readS s1).2.2 4096).2.2 ≠ 0 then (frO, (txtS (readS s1).2.2 4096).2.2) else finP (frS 8 1 s [] (readS s1).1 (txtS (readS s1).2.2 4096).1) (txtS (readS s1).2.2 4096).2
  | k => finP (frS k (idxK k).length s [] ([], []) []) s1
def parseK (k : Nat) (s : Rs) : Fr × Nat := if (itS (idxK k).length s).2 ≠ 0 then (frO, (itS (idxK k).length s).2) else tailP k s (itS (idxK k).length s)
def parseF (l : Bt) : Fr × Nat := if (uintS (l, 0)).2.2 ≠ 0 then (frO, (uintS (l, 0)).2.2) else if (uintS (l, 0)).1 < 1 ∨ 8 < (uintS (l, 0)).1 then (frO, 16) else parseK (uintS (l, 0)).1 (uintS (l, 0)).2
theorem itS_len (s : Rs) : ∀ i, (itS i s).1.length ≤ s.1.length
  | 0 => Nat.le_refl _
  | i + 1 => Nat.le_trans (uintS_len (itS i s)) (itS_len s i)
theorem itS_stick {s : Rs} {i : Nat} (h : (itS i s).2 ≠ 0) : ∀ j, itS (i + j) s = itS i s
  | 0 => rfl
  | j + 1 => by
    show (uintS (itS (i + j) s)).2 = _
    rw [itS_stick h j]
    unfold uintS
    rw [if_pos h]
theorem parseK_err {k : Nat} {s : Rs} (i : Nat) (hi : i ≤ (idxK k).length) (h : (itS i s).2 ≠ 0) : parseK k s = (frO, (itS i s).2) := by
  have e : itS (idxK k).length s = itS i s := by
    have := itS_stick h ((idxK k).length - i)
    rwa [show i + ((idxK k).length - i) = (idxK k).length by omega] at this
  unfold parseK
  rw [e, if_pos h]
theorem parseK_go {k : Nat} {s : Rs} (h : (itS (idxK k).length s).2 = 0) : parseK k s = tailP k s (itS (idxK k).length s) := by
  unfold parseK
  rw [if_neg (by omega)]
def shR (k : Nat) (p : Fr × Nat) : List D := if p.2 ≠ 0 then nilR frO else match k with
  | 5 => [iD p.1.k, iD p.1.a, iD p.1.e, iD p.1.b, iD p.1.c, iD p.1.g, iD p.1.s, iD p.1.n, iD p.1.t, iD p.1.w, .sl 4 (p.1.ev.map evR), tD [], nilV, nilV]
  | 8 => [iD p.1.k, iD p.1.a, iD p.1.e, iD p.1.b, iD p.1.c, iD p.1.g, iD p.1.s, iD p.1.n, iD p.1.t, iD p.1.w, nilV, tD p.1.sr.1, .sl 2 (p.1.sr.2.map labR), bsD p.1.d]
  | _ => nilR p.1
abbrev outP (k : Nat) (p : Fr × Nat) : AV := .tup [.d (.agg (shR k p)), iA p.2]
theorem outP_err {k e : Nat} (h : e ≠ 0) : outP k (frO, e) = .tup [.d (.agg (nilR frO)), iA e] := by
  have : shR k (frO, e) = nilR frO := by unfold shR; rw [if_pos h]
  rw [outP, this]
theorem right_pre (f : Fr) (hf : FrOk f) {xs : List D} (hn : nilLe xs (frR f)) : Sat Tryz.prog 55 [.d (.agg xs)] [] (bA (rightF f)) [] :=
  (right_sat f hf).pre fun w F ρ vs h => by
    cases h with | cons h1 h2 =>
    cases h1 with | d h1 => exact .cons (.d (h1.nilLe hn)) h2
theorem wrap_in64 (u : Int) : in64 (IntKind.i64.wrap u) := by
  unfold in64
  rw [IntKind.wrap_i64]; omega
theorem vbL_in64 : ∀ (js : List Nat) (i : Nat) (s : Rs) (p : Nat), in64 (vbL js i s p)
  | [], _, _, _ => by unfold vbL in64; omega
  | j :: r, i, s, p => by
    unfold vbL
    cases Nat.beq j p with
    | true => exact wrap_in64 _
    | false => exact vbL_in64 r (i + 1) s p
theorem def_retN (k a e b c g s n t w : Int) (z u : AObj) : DefRun Tryz.prog 83 [.ptr 0 0, .ptr 1 0] .returning .returning
    [.cells (frN k a e b c g s n t w), .cells [iA 0], z, u] [.cells (frN k a e b c g s n t w), .cells [iA 0], .dead, .dead] := by
  refine defRun_of_vc (T := tiOf Tryz.prog) (E := E0) Tryz.func83 rfl rfl hE0 hm0 rfl rfl rfl rfl (.inr ⟨rfl, rfl, rfl⟩) rfl ?_
  conv => whnf
  iterate 6
    repeat' (first | exact True.intro | ((first | refine Yb fun _ => ?_ | refine Yc fun _ => ?_ | refine Ya (by kernel_rfl) ?_ | refine Ya (by decide) ?_ | refine Yd (by decide) fun _ => ?_ | refine Ye (by decide) fun _ => ?_ | refine ⟨_, _, eqNI (by kernel_rfl), ?_⟩); conv => whnf) | (refine Ya (fun _ => ?_) (fun _ => ?_) <;> conv => whnf))
    all_goals try (refine Or.inl ?_; conv => whnf)
  all_goals try (exfalso; simp only [outL] at *; first | omega | contradiction | (simp_all; done) | (simp_all; omega))
  all_goals refine ⟨[], ?_⟩
  repeat (any_goals (first | exact True.intro | exact rfl | exact (by kernel_rfl) | refine Ya ?_ ?_))
  all_goals conv => whnf
theorem def_ret5 (k a e b c g s n t w : Int) (ev : List Evt) (z u : AObj) : DefRun Tryz.prog 83 [.ptr 0 0, .ptr 1 0] .returning .returning
    [.cells [iA k, iA a, iA e, iA b, iA c, iA g, iA s, iA n, iA t, iA w, .d (.sl 4 (ev.map evR)), .d (tD []), .d nilV, .d nilV], .cells [iA 0], z, u] [.cells [iA k, iA a, iA e, iA b, iA c, iA g, iA s, iA n, iA t, iA w, .d (.sl 4 (ev.map evR)), .d (tD []), .d nilV, .d nilV], .cells [iA 0], .dead, .dead] := by
  refine defRun_of_vc (T := tiOf Tryz.prog) (E := E0) Tryz.func83 rfl rfl hE0 hm0 rfl rfl rfl rfl (.inr ⟨rfl, rfl, rfl⟩) rfl ?_
  conv => whnf
  iterate 6
    repeat' (first | exact True.intro | ((first | refine Yb fun _ => ?_ | refine Yc fun _ => ?_ | refine Ya (by kernel_rfl) ?_ | refine Ya (by decide) ?_ | refine Yd (by decide) fun _ => ?_ | refine Ye (by decide) fun _ => ?_ | refine ⟨_, _, eqNI (by kernel_rfl), ?_⟩); conv => whnf) | (refine Ya (fun _ => ?_) (fun _ => ?_) <;> conv => whnf))
    all_goals try (refine Or.inl ?_; conv => whnf)
  all_goals try (exfalso; simp only [outL] at *; first | omega | contradiction | (simp_all; done) | (simp_all; omega))
  all_goals refine ⟨[], ?_⟩
  repeat (any_goals (first | exact True.intro | exact rfl | exact (by kernel_rfl) | refine Ya ?_ ?_))
  all_goals conv => whnf
theorem frS_ok (k i : Nat) (s : Rs) (hk : k ≤ 8) {ev : List Evt} {sr : Ser} (d : Bt) (h1 : ev.length ≤ 1000000) (h2 : ∀ x ∈ ev, x.2.2.2.length ≤ 1000000) (h3 : sr.2.length ≤ 1000000) : FrOk (frS k i s ev sr d) :=
  ⟨(show in64 (k : Int) from ⟨by omega, by omega⟩), vbL_in64 _ _ _ _, vbL_in64 _ _ _ _, vbL_in64 _ _ _ _, vbL_in64 _ _ _ _, vbL_in64 _ _ _ _, vbL_in64 _ _ _ _, vbL_in64 _ _ _ _, vbL_in64 _ _ _ _, vbL_in64 _ _ _ _, h1, h2, h3⟩
theorem finP_end {f : Fr} {s : Rs} (h : (endS s).2 ≠ 0) : finP f s = (frO, (endS s).2) := if_pos h
theorem finP_no {f : Fr} {s : Rs} (h : (endS s).2 = 0) (hr : rightF f = false) : finP f s = (frO, 10) := by
  unfold finP
  rw [if_neg (by omega), if_neg (by rw [hr]; simp)]
theorem finP_ok {f : Fr} {s : Rs} (h : (endS s).2 = 0) (hr : rightF f = true) : finP f s = (f, 0) := by
  unfold finP
  rw [if_neg (by omega), if_pos hr]
end Go.Proofs.YtfbfpnfgabamfaaGreat
