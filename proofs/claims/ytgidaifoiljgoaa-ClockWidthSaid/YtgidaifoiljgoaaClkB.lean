/- clock.Sample.At. -/
import Derived.Test.YtgidaifoiljgoaaClkA
import Derived.Deep.Cut
namespace Go.Proofs.Ytgidaifoiljgoaa
open Go.RowKit
set_option linter.unusedVariables false
set_option linter.unusedSimpArgs false
theorem infoS : (Try.prog.info? 33).map (·.size) = some 4 := by kernel_rfl
theorem lowIn (s : Smp) (stamp rho : Int) (hs : okS s = true) (ht : isT stamp = true) (hr : okRate rho = true) : nearX (stamp - s.got) = true ∧ nearX (stamp - s.sent) = true := by
  unfold okS isT at hs
  unfold isT at ht
  simp only [Bool.and_eq_true, decide_eq_true_eq] at hs ht
  unfold nearX
  rw [decide_eq_true_eq, decide_eq_true_eq]
  omega
set_option maxHeartbeats 1000000 in
set_option maxRecDepth 100000 in
theorem at_any (s : Smp) (stamp rho : Int) (w : World) (hst1 : -9223372036854775808 ≤ stamp) (hst2 : stamp ≤ 9223372036854775807) :
    Calls Try.prog 24 #[.agg (smv s), .int .i64 stamp, .int .i64 rho] w fun e w' => e = .returned (.tuple #[.agg (gv (atR s stamp rho).1.1 (atR s stamp rho).1.2), .int .i64 (atR s stamp rho).2]) ∧ Below w.heap.size w w' := by
  have K0 := hide (((Blks.nil w).new 33 (smv s)).new 39 (gv 0 0))
  rw [World.size_alloc] at K0
  have B0 := hide (show Below w.heap.size w ((w.alloc (.cells (smv s) 33)).alloc (.cells (gv 0 0) 39)) from ((Below.refl _ _).alloc (Nat.le_refl _) _).alloc (by simp) _)
  have HS := hide (fun w => right_any s w)
  have HRr : Hid (atR s stamp rho = if okS s = false then ((0, 0), 10) else if isT stamp = false ∨ okRate rho = false then ((0, 0), 11) else if atHi s stamp rho < atLo s stamp rho then ((0, 0), 13) else ((atLo s stamp rho, atHi s stamp rho), 0)) := hide rfl
  have HR := HRr
  clear HRr
  cases hs : okS s with
  | false =>
    rw [hs] at HS
    rw [if_pos hs] at HR
    generalize atR s stamp rho = R at *
    clear hs
    go_enter Try.func24, Try.ntmps24
    go_wp2_with (refine pause (.load 33 _) rfl ?_)
    refine unpause ?_
    refine wpList_load_blk rfl 33 (.tmp 3) rfl w.heap.size rfl (smv s) _ (K0.out.get 1 rfl) Try.underlying33 rfl infoS ?_
    go_wp2_with fail
    refine (HS.out _).mono ?_
    rintro e w1 ⟨rfl, hb1⟩
    have K1 := hide (K0.out.next hb1)
    have B1 := hide (B0.out.trans (hb1.mono B0.out.size))
    clear hb1 K0 B0
    go_wp2_with (refine pause (.store 39 _ _) rfl ?_)
    refine unpause ?_
    refine wpList_store_blk rfl 39 (.tmp 6) (.tmp 18) rfl (w.heap.size + 1) rfl (gv 0 0) (gv 0 0) rfl (K1.out.get 0 rfl) rfl info100 (gv_one _ _) ?_
    go_wp2_with fail
    refine bodyPost_ret_by (results_cell2 rfl _ (w.heap.size + 1) rfl (gv 0 0) _ ((K1.out.get 0 rfl).setRow _) Try.underlying39 rfl info100) rfl ⟨?_, below_setRow B1.out (by omega) _⟩
    rw [HR.out]
    rfl
  | true =>
    rw [hs] at HS
    rw [if_neg (by rw [hs]; simp)] at HR
    have HT := hide (fun w => isTime_any stamp w)
    have HRT := hide (fun w => isRate_any rho w)
    have hin := lowIn s stamp rho hs
    have hsb := hs
    unfold okS isT at hsb
    simp only [Bool.and_eq_true, decide_eq_true_eq] at hsb
    clear hs
    cases ht : isT stamp with
    | false =>
      rw [ht] at HT
      rw [if_pos (.inl ht)] at HR
      generalize atR s stamp rho = R at *
      clear ht hin
      go_enter Try.func24, Try.ntmps24
      go_wp2_with (refine pause (.load 33 _) rfl ?_)
      refine unpause ?_
      refine wpList_load_blk rfl 33 (.tmp 3) rfl w.heap.size rfl (smv s) _ (K0.out.get 1 rfl) Try.underlying33 rfl infoS ?_
      go_wp2_with fail
      refine (HS.out _).mono ?_
      rintro e w1 ⟨rfl, hb1⟩
      have K1 := hide (K0.out.next hb1)
      have B1 := hide (B0.out.trans (hb1.mono B0.out.size))
      clear hb1 K0 B0
      go_wp2_with fail
      refine (HT.out _).mono ?_
      rintro e w' ⟨rfl, hw⟩
      subst hw
      go_wp2_with (refine pause (.store 39 _ _) rfl ?_)
      refine unpause ?_
      refine wpList_store_blk rfl 39 (.tmp 6) (.tmp 27) rfl (w.heap.size + 1) rfl (gv 0 0) (gv 0 0) rfl (K1.out.get 0 rfl) rfl info100 (gv_one _ _) ?_
      go_wp2_with fail
      refine bodyPost_ret_by (results_cell2 rfl _ (w.heap.size + 1) rfl (gv 0 0) _ ((K1.out.get 0 rfl).setRow _) Try.underlying39 rfl info100) rfl ⟨?_, below_setRow B1.out (by omega) _⟩
      rw [HR.out]
      rfl
    | true =>
      rw [ht] at HT
      cases hr : okRate rho with
      | false =>
        rw [hr] at HRT
        rw [if_pos (.inr hr)] at HR
        generalize atR s stamp rho = R at *
        clear ht hin hr
        go_enter Try.func24, Try.ntmps24
        go_wp2_with (refine pause (.load 33 _) rfl ?_)
        refine unpause ?_
        refine wpList_load_blk rfl 33 (.tmp 3) rfl w.heap.size rfl (smv s) _ (K0.out.get 1 rfl) Try.underlying33 rfl infoS ?_
        go_wp2_with fail
        refine (HS.out _).mono ?_
        rintro e w1 ⟨rfl, hb1⟩
        have K1 := hide (K0.out.next hb1)
        have B1 := hide (B0.out.trans (hb1.mono B0.out.size))
        clear hb1 K0 B0
        go_wp2_with fail
        refine (HT.out _).mono ?_
        rintro e w' ⟨rfl, hw⟩
        subst hw
        go_wp2_with fail
        refine (HRT.out _).mono ?_
        rintro e w' ⟨rfl, hw⟩
        subst hw
        go_wp2_with (refine pause (.store 39 _ _) rfl ?_)
        refine unpause ?_
        refine wpList_store_blk rfl 39 (.tmp 6) (.tmp 27) rfl (w.heap.size + 1) rfl (gv 0 0) (gv 0 0) rfl (K1.out.get 0 rfl) rfl info100 (gv_one _ _) ?_
        go_wp2_with fail
        refine bodyPost_ret_by (results_cell2 rfl _ (w.heap.size + 1) rfl (gv 0 0) _ ((K1.out.get 0 rfl).setRow _) Try.underlying39 rfl info100) rfl ⟨?_, below_setRow B1.out (by omega) _⟩
        rw [HR.out]
        rfl
      | true =>
        rw [hr] at HRT
        rw [if_neg (by rw [ht, hr]; simp)] at HR
        obtain ⟨hn1, hn2⟩ := hin ht hr
        have HLO := hide (fun w => low_ok (stamp - s.got) rho w hn1 hr)
        have HHI := hide (fun w => high_ok (stamp - s.sent) rho w hn2 hr)
        have hlb := lowZ_bounds (stamp - s.got) rho hn1 hr
        have hhb := lowZ_bounds (-(stamp - s.sent)) rho (by unfold nearX at hn2 ⊢; rw [decide_eq_true_eq] at hn2 ⊢; omega) hr
        have hhb2 : -4611686018427387904 ≤ highZ (stamp - s.sent) rho ∧ highZ (stamp - s.sent) rho ≤ 5124095576030431007 := by unfold highZ; omega
        have hL : Hid (atLo s stamp rho = max (s.asked + lowZ (stamp - s.got) rho) 0) := hide rfl
        have hH : Hid (atHi s stamp rho = min (s.came + highZ (stamp - s.sent) rho) 4611686018427387903) := hide rfl
        have htb := of_decide_eq_true ht
        generalize atR s stamp rho = R at *
        generalize atLo s stamp rho = lo at *
        generalize atHi s stamp rho = hi at *
        generalize lowZ (stamp - s.got) rho = L at *
        generalize highZ (stamp - s.sent) rho = H at *
        have HA := hide (fun w => safeAdd_any s.came H w (by omega) (by omega) (by omega) (by omega))
        obtain ⟨⟨⟨⟨⟨⟨a1, a2⟩, g1, g2⟩, t1, t2⟩, c1, c2⟩, hac⟩, hgt⟩ := hsb
        have hl1 := hlb.1
        have hl2 := hlb.2
        have hh1 := hhb2.1
        have hh2 := hhb2.2
        have ht1 := htb.1
        have ht2 := htb.2
        clear hn1 hn2 hlb hhb hhb2 ht hr htb hac hgt hin
        go_enter Try.func24, Try.ntmps24
        go_wp2_with (refine pause (.load 33 _) rfl ?_)
        refine unpause ?_
        refine wpList_load_blk rfl 33 (.tmp 3) rfl w.heap.size rfl (smv s) _ (K0.out.get 1 rfl) Try.underlying33 rfl infoS ?_
        go_wp2_with fail
        refine (HS.out _).mono ?_
        rintro e w1 ⟨rfl, hb1⟩
        have K1 := hide (K0.out.next hb1)
        have B1 := hide (B0.out.trans (hb1.mono B0.out.size))
        clear hb1 K0 B0
        go_wp2_with fail
        refine (HT.out _).mono ?_
        rintro e w' ⟨rfl, hw⟩
        subst hw
        go_wp2_with fail
        refine (HRT.out _).mono ?_
        rintro e w' ⟨rfl, hw⟩
        subst hw
        have k0 := K1.out.get 1 rfl
        have d0 := k0.cell 0
        have d1 := k0.cell 1
        have d2 := k0.cell 2
        have d3 := k0.cell 3
        simp only [smv, List.getElem?_toArray, List.getElem?_cons_zero, List.getElem?_cons_succ] at d0 d1 d2 d3
        clear k0
        go_wp2_with fail
        refine (HLO.out _).mono ?_
        rintro e w2 ⟨rfl, hb2⟩
        have K2 := hide (K1.out.next hb2)
        have B2 := hide (B1.out.trans (hb2.mono B1.out.size))
        clear hb2 K1 B1
        clear d0 d1 d2 d3
        have k0 := K2.out.get 1 rfl
        have d0 := k0.cell 0
        have d1 := k0.cell 1
        have d2 := k0.cell 2
        have d3 := k0.cell 3
        simp only [smv, List.getElem?_toArray, List.getElem?_cons_zero, List.getElem?_cons_succ] at d0 d1 d2 d3
        clear k0
        go_wp2_with fail
        refine (HHI.out _).mono ?_
        rintro e w3 ⟨rfl, hb3⟩
        have K3 := hide (K2.out.next hb3)
        have B3 := hide (B2.out.trans (hb3.mono B2.out.size))
        clear hb3 K2 B2
        clear d0 d1 d2 d3
        have k0 := K3.out.get 1 rfl
        have d0 := k0.cell 0
        have d1 := k0.cell 1
        have d2 := k0.cell 2
        have d3 := k0.cell 3
        simp only [smv, List.getElem?_toArray, List.getElem?_cons_zero, List.getElem?_cons_succ] at d0 d1 d2 d3
        clear k0
        go_wp2_with fail
        rw [← hL.out]
        by_cases ov : 9223372036854775807 < s.came + H
        · rw [show addR s.came H = (0, 12) from if_pos (.inr ov)] at HA
          have hhi : hi = 4611686018427387903 := by rw [hH.out]; omega
          subst hhi
          refine (HA.out _).mono ?_
          rintro e w' ⟨rfl, hw⟩
          subst hw
          go_upto_region 12 with (fail)
          have hlt2 : (4611686018427387903 : Int) < lo → R = ((0, 0), 13) := fun h => by rw [HR.out, if_pos h]
          have hge2 : ¬ (4611686018427387903 : Int) < lo → R = ((lo, (4611686018427387903 : Int)), 0) := fun h => by rw [HR.out, if_neg h]
          clear HR
          by_cases hc : (4611686018427387903 : Int) < lo
          · have HR := hide (hlt2 hc)
            have hd : decide ((4611686018427387903 : Int) < lo) = true := decide_eq_true hc
            clear hlt2 hge2 hc d0 d1 d2 d3
            go_wp2_with (refine pause (.store 39 _ _) rfl ?_)
            refine unpause ?_
            refine wpList_store_blk rfl 39 (.tmp 6) (.tmp 65) rfl (w.heap.size + 1) rfl (gv 0 0) (gv 0 0) rfl (K3.out.get 0 rfl) rfl info100 (gv_one _ _) ?_
            go_wp2_with fail
            refine bodyPost_ret_by (results_cell2 rfl _ (w.heap.size + 1) rfl (gv 0 0) _ ((K3.out.get 0 rfl).setRow _) Try.underlying39 rfl info100) rfl ⟨?_, below_setRow B3.out (by omega) _⟩
            rw [HR.out]
            rfl
          · have HR := hide (hge2 hc)
            have hd : decide ((4611686018427387903 : Int) < lo) = false := decide_eq_false hc
            clear hlt2 hge2 hc d0 d1 d2 d3
            go_wp2_with (refine pause (.store 39 _ _) rfl ?_)
            refine unpause ?_
            refine wpList_store_blk rfl 39 (.tmp 6) (.tmp 68) rfl (w.heap.size + 1) rfl (gv 0 0) (gv lo (4611686018427387903 : Int)) rfl (K3.out.get 0 rfl) rfl info100 (gv_one _ _) ?_
            go_wp2_with fail
            refine bodyPost_ret_by (results_cell2 rfl _ (w.heap.size + 1) rfl (gv lo (4611686018427387903 : Int)) _ ((K3.out.get 0 rfl).setRow _) Try.underlying39 rfl info100) rfl ⟨?_, below_setRow B3.out (by omega) _⟩
            rw [HR.out]
            rfl
        · rw [show addR s.came H = (s.came + H, 0) from if_neg (by omega)] at HA
          refine (HA.out _).mono ?_
          rintro e w' ⟨rfl, hw⟩
          subst hw
          go_upto_region 12 with (fail)
          rw [← hH.out]
          have hlt2 : hi < lo → R = ((0, 0), 13) := fun h => by rw [HR.out, if_pos h]
          have hge2 : ¬ hi < lo → R = ((lo, hi), 0) := fun h => by rw [HR.out, if_neg h]
          clear HR
          by_cases hc : hi < lo
          · have HR := hide (hlt2 hc)
            have hd : decide (hi < lo) = true := decide_eq_true hc
            clear hlt2 hge2 hc d0 d1 d2 d3
            go_wp2_with (refine pause (.store 39 _ _) rfl ?_)
            refine unpause ?_
            refine wpList_store_blk rfl 39 (.tmp 6) (.tmp 65) rfl (w.heap.size + 1) rfl (gv 0 0) (gv 0 0) rfl (K3.out.get 0 rfl) rfl info100 (gv_one _ _) ?_
            go_wp2_with fail
            refine bodyPost_ret_by (results_cell2 rfl _ (w.heap.size + 1) rfl (gv 0 0) _ ((K3.out.get 0 rfl).setRow _) Try.underlying39 rfl info100) rfl ⟨?_, below_setRow B3.out (by omega) _⟩
            rw [HR.out]
            rfl
          · have HR := hide (hge2 hc)
            have hd : decide (hi < lo) = false := decide_eq_false hc
            clear hlt2 hge2 hc d0 d1 d2 d3
            go_wp2_with (refine pause (.store 39 _ _) rfl ?_)
            refine unpause ?_
            refine wpList_store_blk rfl 39 (.tmp 6) (.tmp 68) rfl (w.heap.size + 1) rfl (gv 0 0) (gv lo hi) rfl (K3.out.get 0 rfl) rfl info100 (gv_one _ _) ?_
            go_wp2_with fail
            refine bodyPost_ret_by (results_cell2 rfl _ (w.heap.size + 1) rfl (gv lo hi) _ ((K3.out.get 0 rfl).setRow _) Try.underlying39 rfl info100) rfl ⟨?_, below_setRow B3.out (by omega) _⟩
            rw [HR.out]
            rfl
end Go.Proofs.Ytgidaifoiljgoaa
