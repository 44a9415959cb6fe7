/- gap.Meet; sweep.Agree. -/
import Derived.Test.YtgidaifoiljgoaaGap
import Derived.Outline
namespace Go.Proofs.Ytgidaifoiljgoaa
open Go.RowKit
set_option linter.unusedVariables false
set_option linter.unusedSimpArgs false
theorem rd_to {w1 W : World} {s n : Nat} {A : Option Addr} {xs : List Value} (hr : Rd w1 w1.heap.size s A n xs) (h : Below w1.heap.size w1 W) : Rd W W.heap.size s A n xs := (hr.below h).more h.size
def gcell (g : Int × Int) : List Value := [.int .i64 g.1, .int .i64 g.2]
def gcells (gs : List (Int × Int)) : List Value := (gs.map gcell).flatten
theorem gcells_len : ∀ gs : List (Int × Int), (gcells gs).length = gs.length * 2
  | [] => rfl
  | g :: r => by
    have := gcells_len r
    unfold gcells at this ⊢
    rw [List.map_cons, List.flatten_cons, List.length_append, this, List.length_cons]
    simp [gcell]; omega
theorem gcells_get : ∀ (gs : List (Int × Int)) (k j : Nat) (g : Int × Int), gs[k]? = some g → j < 2 → (gcells gs)[k * 2 + j]? = (gcell g)[j]?
  | [], k, j, g, h, _ => by simp at h
  | x :: r, 0, j, g, h, hj => by
    simp at h
    subst h
    unfold gcells
    rw [List.map_cons, List.flatten_cons, Nat.zero_mul, Nat.zero_add, List.getElem?_append_left (by simpa [gcell] using hj)]
  | x :: r, k + 1, j, g, h, hj => by
    have ih := gcells_get r k j g (by simpa using h) hj
    unfold gcells at ih ⊢
    rw [List.map_cons, List.flatten_cons, List.getElem?_append_right (by simp [gcell]; omega)]
    rw [show (k + 1) * 2 + j - (gcell x).length = k * 2 + j by simp [gcell]; omega]
    exact ih
/-- One gap of a slice. -/
theorem Rd.gap {w : World} {B n : Nat} {A : Option Addr} {gs : List (Int × Int)} (h : Rd w B 2 A n (gcells gs)) {k : Nat} (hk : k < n) :
    ∃ b off g, A = some ⟨b, off, none⟩ ∧ b < B ∧ gs[k]? = some g ∧ w.cell? ⟨b, off + k * 2, none⟩ = some (.int .i64 g.1) ∧ w.cell? ⟨b, off + k * 2 + 1, none⟩ = some (.int .i64 g.2) := by
  obtain ⟨b, off, e, hb, hc⟩ := h.at_ hk
  have hl := h.1
  rw [gcells_len] at hl
  have hlt : k < gs.length := by omega
  refine ⟨b, off, gs[k], e, hb, List.getElem?_eq_getElem hlt, ?_, ?_⟩
  · have h0 := gcells_get gs k 0 gs[k] (List.getElem?_eq_getElem hlt) (by omega)
    obtain ⟨h1, h2⟩ := List.getElem?_eq_some_iff.1 (h0.trans (show (gcell gs[k])[0]? = some _ from rfl))
    have := hc (k * 2 + 0) h1
    rw [h2] at this
    exact this
  · have h0 := gcells_get gs k 1 gs[k] (List.getElem?_eq_getElem hlt) (by omega)
    obtain ⟨h1, h2⟩ := List.getElem?_eq_some_iff.1 (h0.trans (show (gcell gs[k])[1]? = some _ from rfl))
    have := hc (k * 2 + 1) h1
    rw [h2] at this
    exact this
theorem Rd.lenG {w : World} {B n : Nat} {A : Option Addr} {gs : List (Int × Int)} (h : Rd w B 2 A n (gcells gs)) : gs.length = n := by
  have := h.1
  rw [gcells_len] at this
  omega
def okG (g : Int × Int) : Bool := decide (g.1 ≤ g.2)
def meetL (s : Int × Int) (gs : List (Int × Int)) : Int × Int := gs.foldl (fun a g => (max a.1 g.1, min a.2 g.2)) s
def foldR (s : Int × Int) (gs : List (Int × Int)) : (Int × Int) × Nat := if gs.all okG = false then ((0, 0), 10) else if okG (meetL s gs) = true then (meetL s gs, 0) else ((0, 0), 13)
theorem gv_ret {a b c d : Int} (h : a = c) (h' : b = d) : Ending.returned (.agg #[.int .i64 a, .int .i64 b]) = .returned (.agg #[.int .i64 c, .int .i64 d]) := by rw [h, h']
theorem meetF_any (a b c d : Int) (w : World) : Calls Try.prog 63 #[.agg (gv a b), .agg (gv c d)] w fun e w' => e = .returned (.agg (gv (max a c) (min b d))) ∧ Below w.heap.size w w' := by
  unfold gv
  have hsz : ((w.alloc (.cells #[.int .i64 a, .int .i64 b] 39)).alloc (.cells #[.int .i64 c, .int .i64 d] 39)).heap.size = w.heap.size + 1 + 1 := by simp
  go_enter Try.func63, Try.ntmps63
  go_wp2_with fail
  all_goals
    refine bodyPost_ret_by (results_cell rfl _ (w.heap.size + 1 + 1) rfl (gv _ _) _ (by rw [← hsz]; exact Blk.new _ _ _) Try.underlying39 rfl info100) rfl ⟨?_, (((Below.refl _ _).alloc (Nat.le_refl _) _).alloc (by simp) _).alloc (by simp; omega) _⟩
    exact gv_ret (by omega) (by omega)
set_option maxHeartbeats 1000000 in
set_option maxRecDepth 100000 in
theorem fold_any (s : Int × Int) (A : Option Addr) (n c : Nat) (gs : List (Int × Int)) (w : World) (hr : Rd w w.heap.size 2 A n (gcells gs)) (hn : n ≤ 140737488351232) :
    Calls Try.prog 62 #[.agg (gv s.1 s.2), .slice A n c, .func (.func 63) #[] #[]] w fun e w' => e = .returned (.tuple #[.agg (gv (foldR s gs).1.1 (foldR s gs).1.2), .int .i64 (foldR s gs).2]) ∧ Below w.heap.size w w' := by
  have HN := hide hr.lenG
  obtain ⟨R, hR⟩ : ∃ R, R = foldR s gs := ⟨_, rfl⟩
  rw [← hR]
  have HR := hide hR
  clear hR
  obtain ⟨s1, s2⟩ := s
  have hr0 := hide hr
  have K0 := hide (((Blks.nil w).new 39 (gv s1 s2)).new 39 (gv 0 0))
  rw [World.size_alloc] at K0
  have B0 := hide (show Below w.heap.size w ((w.alloc (.cells (gv s1 s2) 39)).alloc (.cells (gv 0 0) 39)) from ((Below.refl _ _).alloc (Nat.le_refl _) _).alloc (by simp) _)
  clear hr
  go_enter Try.func62, Try.ntmps62
  go_wp2_with fail
  go_loopw [7, 12] (fun e i wr => ∃ (k : Nat) (m1 m2 : Int), k ≤ n ∧ e = .int .i64 0 ∧ i = .int .i64 k ∧ Hid (Blks wr [(w.heap.size + 1, 39, gv 0 0), (w.heap.size, 39, gv m1 m2)]) ∧ Hid (Below w.heap.size w wr) ∧ Hid ((gs.take k).all okG = true ∧ meetL (s1, s2) (gs.take k) = (m1, m2))) (fun _ i _ => n - (intOf i).toNat)
  case atStart => exact ⟨0, s1, s2, Nat.zero_le _, rfl, rfl, K0, B0, hide ⟨rfl, rfl⟩⟩
  case round =>
    clear K0 B0
    obtain ⟨k, m1, m2, hk, rfl, rfl, KR, BR, HM⟩ := hrel
    by_cases hk1 : k < n
    · obtain ⟨b, off, ⟨g1, g2⟩, rfl, hb, hg, hc0, hc1⟩ := hr0.out.gap hk1
      have c0 := (BR.out.cell (p := ⟨b, off + k * 2, none⟩) hb).trans hc0
      have c1 := (BR.out.cell (p := ⟨b, off + k * 2 + 1, none⟩) hb).trans hc1
      have HG := hide hg
      clear hg hc0 hc1
      by_cases hok : g1 ≤ g2
      · have hok2 : decide (g1 ≤ g2) = true := decide_eq_true hok
        have BRs : w.heap.size ≤ wr.heap.size := BR.out.size
        go_wp2_with fail
        refine (gapRight_any g1 g2 _).mono ?_
        rintro e w1 ⟨rfl, hb1⟩
        rw [hok2]
        have K1 := hide ((KR.out.new 39 (gv g1 g2)).next hb1)
        have B1 := hide ((BR.out.alloc BRs (.cells (gv g1 g2) 39)).trans (hb1.mono (by simp; omega)))
        have k9 := K1.out.get 0 rfl
        have k3 := K1.out.get 2 rfl
        have d0 := k9.cell 0
        have d1 := k9.cell 1
        have e0 := k3.cell 0
        have e1 := k3.cell 1
        have f0 := k3.frozen 0
        have f1 := k3.frozen 1
        simp only [gv, List.getElem?_toArray, List.getElem?_cons_zero, List.getElem?_cons_succ] at d0 d1 e0 e1
        clear hb1 k9 k3 c0 c1
        go_wp2_with fail
        refine (meetF_any m1 m2 g1 g2 _).mono ?_
        rintro e w2 ⟨rfl, hb2⟩
        have K2 := hide (K1.out.next hb2)
        have B2 := hide (B1.out.trans (hb2.mono B1.out.size))
        clear hb2 d0 d1 e0 e1 f0 f1
        go_wp2_with (refine pause (.store 39 _ _) rfl ?_)
        refine unpause ?_
        have K3 := hide (show Blks (w2.setRow w.heap.size (gv (max m1 g1) (min m2 g2))) [(w.heap.size + 1, 39, gv 0 0), (w.heap.size, 39, gv (max m1 g1) (min m2 g2))] from (K2.out.row 2 rfl _).tail)
        have B3 := hide (below_setRow B2.out (g := w.heap.size) (Nat.le_refl _) (gv (max m1 g1) (min m2 g2)))
        refine wpList_store_blk rfl 39 (.tmp 3) (.tmp 23) rfl w.heap.size rfl (gv m1 m2) (gv (max m1 g1) (min m2 g2)) rfl (K2.out.get 2 rfl) rfl info100 (gv_one _ _) ?_
        have HM2 := hide (show (gs.take (k + 1)).all okG = true ∧ meetL (s1, s2) (gs.take (k + 1)) = (max m1 g1, min m2 g2) by
          have h := HM.out
          have e : gs.take (k + 1) = gs.take k ++ [(g1, g2)] := by rw [List.take_add_one, HG.out]; rfl
          rw [e, List.all_append, h.1]
          refine ⟨by simp [okG, hok], ?_⟩
          unfold meetL at h ⊢
          rw [List.foldl_append, h.2]
          rfl)
        generalize w2.setRow w.heap.size (gv (max m1 g1) (min m2 g2)) = w3 at *
        clear K1 B1 K2 B2 KR BR HM
        go_wp2_with fail
        go_roundw
        case rel => exact ⟨k + 1, _, _, by omega, rfl, by go_num, K3, B3, HM2⟩
        case measure => simp [intOf]; omega
      · have hok2 : decide (g1 ≤ g2) = false := decide_eq_false hok
        have BRs : w.heap.size ≤ wr.heap.size := BR.out.size
        have HF := hide (show R = ((0, 0), 10) by
          rw [HR.out]
          unfold foldR
          rw [if_pos]
          rw [List.all_eq_false]
          exact ⟨(g1, g2), List.mem_of_getElem? HG.out, by simp [okG, hok]⟩)
        go_wp2_with fail
        refine (gapRight_any g1 g2 _).mono ?_
        rintro e w1 ⟨rfl, hb1⟩
        rw [hok2]
        have K1 := hide ((KR.out.new 39 (gv g1 g2)).next hb1)
        have B1 := hide ((BR.out.alloc BRs (.cells (gv g1 g2) 39)).trans (hb1.mono (by simp; omega)))
        clear hb1 c0 c1
        go_wp2_with (refine pause (.store 39 _ _) rfl ?_)
        refine unpause ?_
        refine wpList_store_blk rfl 39 (.tmp 6) (.tmp 19) rfl (w.heap.size + 1) rfl (gv 0 0) (gv 0 0) rfl (K1.out.get 1 rfl) rfl info100 (gv_one _ _) ?_
        go_wp2_with fail
        refine bodyPost_ret_by (results_cell2 rfl _ (w.heap.size + 1) rfl (gv 0 0) _ ((K1.out.get 1 rfl).setRow _) Try.underlying39 rfl info100) rfl ⟨?_, below_setRow B1.out (by omega) _⟩
        rw [HF.out]
        rfl
    · have hkn : k = n := by omega
      subst hkn
      have hm := HM.out
      rw [show gs.take k = gs from List.take_of_length_le (by have := HN.out; omega)] at hm
      have k3 := KR.out.get 1 rfl
      have e0 := k3.cell 0
      have e1 := k3.cell 1
      simp only [gv, List.getElem?_toArray, List.getElem?_cons_zero, List.getElem?_cons_succ] at e0 e1
      clear k3
      by_cases hok : m1 ≤ m2
      · have hok2 : decide (m1 ≤ m2) = true := decide_eq_true hok
        have HF := hide (show R = ((m1, m2), 0) by
          rw [HR.out]
          unfold foldR
          rw [if_neg (by rw [hm.1]; simp), hm.2, if_pos (by simp [okG, hok])])
        clear hm
        go_wp2_with fail
        refine (gapRight_any m1 m2 _).mono ?_
        rintro e w1 ⟨rfl, hb1⟩
        rw [hok2]
        have K1 := hide (KR.out.next hb1)
        have B1 := hide (BR.out.trans (hb1.mono BR.out.size))
        have k3 := K1.out.get 1 rfl
        have e0 := k3.cell 0
        have e1 := k3.cell 1
        simp only [gv, List.getElem?_toArray, List.getElem?_cons_zero, List.getElem?_cons_succ] at e0 e1
        clear hb1 k3
        go_wp2_with (refine pause (.store 39 _ _) rfl ?_)
        refine unpause ?_
        refine wpList_store_blk rfl 39 (.tmp 6) (.tmp 29) rfl (w.heap.size + 1) rfl (gv 0 0) (gv m1 m2) rfl (K1.out.get 0 rfl) rfl info100 (gv_one _ _) ?_
        go_wp2_with fail
        refine bodyPost_ret_by (results_cell2 rfl _ (w.heap.size + 1) rfl (gv m1 m2) _ ((K1.out.get 0 rfl).setRow _) Try.underlying39 rfl info100) rfl ⟨?_, below_setRow B1.out (by omega) _⟩
        rw [HF.out]
        rfl
      · have hok2 : decide (m1 ≤ m2) = false := decide_eq_false hok
        have HF := hide (show R = ((0, 0), 13) by
          rw [HR.out]
          unfold foldR
          rw [if_neg (by rw [hm.1]; simp), hm.2, if_neg (by simp [okG, hok])])
        clear hm
        go_wp2_with fail
        refine (gapRight_any m1 m2 _).mono ?_
        rintro e w1 ⟨rfl, hb1⟩
        rw [hok2]
        have K1 := hide (KR.out.next hb1)
        have B1 := hide (BR.out.trans (hb1.mono BR.out.size))
        clear hb1 e0 e1
        go_wp2_with (refine pause (.store 39 _ _) rfl ?_)
        refine unpause ?_
        refine wpList_store_blk rfl 39 (.tmp 6) (.tmp 28) rfl (w.heap.size + 1) rfl (gv 0 0) (gv 0 0) rfl (K1.out.get 0 rfl) rfl info100 (gv_one _ _) ?_
        go_wp2_with fail
        refine bodyPost_ret_by (results_cell2 rfl _ (w.heap.size + 1) rfl (gv 0 0) _ ((K1.out.get 0 rfl).setRow _) Try.underlying39 rfl info100) rfl ⟨?_, below_setRow B1.out (by omega) _⟩
        rw [HF.out]
        rfl
def allG : Int × Int := (-9223372036854775808, 9223372036854775807)
def meetR (gs : List (Int × Int)) : (Int × Int) × Nat := foldR allG gs
set_option maxHeartbeats 1000000 in
set_option maxRecDepth 100000 in
theorem meet_any (A : Option Addr) (n c : Nat) (gs : List (Int × Int)) (w : World) (hr : Rd w w.heap.size 2 A n (gcells gs)) (hn : n ≤ 140737488351232) :
    Calls Try.prog 29 #[.slice A n c] w fun e w' => e = .returned (.tuple #[.agg (gv (meetR gs).1.1 (meetR gs).1.2), .int .i64 (meetR gs).2]) ∧ Below w.heap.size w w' := by
  have K0 := hide (((Blks.nil w).new 39 (gv 0 0)).new 39 (gv (-9223372036854775808) 9223372036854775807))
  rw [World.size_alloc] at K0
  have B0 := hide (show Below w.heap.size w ((w.alloc (.cells (gv 0 0) 39)).alloc (.cells (gv (-9223372036854775808) 9223372036854775807) 39)) from ((Below.refl _ _).alloc (Nat.le_refl _) _).alloc (by simp) _)
  have HF := hide (fun w => fold_any allG A n c gs w)
  have HMR : Hid (meetR gs = foldR allG gs) := hide rfl
  rw [← HMR.out] at HF
  have R0 := hide (rd_to hr B0.out)
  generalize meetR gs = R at *
  obtain ⟨⟨m1, m2⟩, er⟩ := R
  clear hr HMR
  go_enter Try.func29, Try.ntmps29
  go_wp2_with fail
  refine (HF.out _ R0.out hn).mono ?_
  rintro e w1 ⟨rfl, hb1⟩
  have K1 := hide (K0.out.next hb1)
  have B1 := hide (B0.out.trans (hb1.mono B0.out.size))
  clear hb1 K0 B0 HF R0
  go_wp2_with (refine pause (.store 39 _ _) rfl ?_)
  refine unpause ?_
  refine wpList_store_blk rfl 39 (.tmp 2) (.tmp 9) rfl w.heap.size rfl (gv 0 0) (gv m1 m2) rfl (K1.out.get 1 rfl) rfl info100 (gv_one _ _) ?_
  go_wp2_with fail
  refine bodyPost_ret_by (results_cell2 rfl _ w.heap.size rfl (gv m1 m2) _ ((K1.out.get 1 rfl).setRow _) Try.underlying39 rfl info100) rfl ⟨rfl, below_setRow B1.out (Nat.le_refl _) _⟩
def agreeB (gs : List (Int × Int)) : Bool := decide (0 < gs.length) && decide ((meetR gs).2 = 0)
set_option maxHeartbeats 1000000 in
set_option maxRecDepth 100000 in
theorem agree_any (A : Option Addr) (n c : Nat) (gs : List (Int × Int)) (w : World) (hr : Rd w w.heap.size 2 A n (gcells gs)) (hn : n ≤ 140737488351232) :
    Calls Try.prog 45 #[.slice A n c] w fun e w' => e = .returned (.bool (agreeB gs)) ∧ Below w.heap.size w w' := by
  have HN := hide hr.lenG
  have HM := hide (fun w => meet_any A n c gs w)
  have HA : Hid (agreeB gs = (decide (0 < gs.length) && decide ((meetR gs).2 = 0))) := hide rfl
  have HR0 := hide hr
  generalize agreeB gs = r at *
  generalize meetR gs = R at *
  obtain ⟨⟨m1, m2⟩, er⟩ := R
  clear hr
  go_enter Try.func45, Try.ntmps45
  go_wp2_with fail
  refine (HM.out _ HR0.out hn).mono ?_
  rintro e w1 ⟨rfl, hb1⟩
  go_wp2_with (refine pause (.store 39 _ _) rfl ?_)
  refine unpause ?_
  have B1 := hide (below_setRow (hb1.alloc hb1.size (.cells #[.int .i64 0, .int .i64 0] 39)) (g := w1.heap.size) hb1.size (gv m1 m2))
  refine wpList_store_blk rfl 39 (.tmp 3) (.tmp 8) rfl w1.heap.size rfl #[.int .i64 0, .int .i64 0] (gv m1 m2) rfl (Blk.new _ _ _) rfl info100 (gv_one _ _) ?_
  generalize (w1.alloc (.cells #[.int .i64 0, .int .i64 0] 39)).setRow w1.heap.size (gv m1 m2) = w2 at *
  have ha := HA.out
  rw [HN.out] at ha
  clear hb1 HM HR0 HN HA
  by_cases h0 : 0 < n
  · have h1 : decide (0 < n) = true := decide_eq_true h0
    have h1' : decide ((0 : Int) < (n : Int)) = true := decide_eq_true (by omega)
    rw [h1, Bool.true_and] at ha
    have HA := hide ha
    clear ha h0
    go_wp2_with fail
    go_ret
    exact ⟨ret_bool (by rw [HA.out]; rw [Bool.eq_iff_iff]; simp), B1.out⟩
  · have h1 : decide (0 < n) = false := decide_eq_false h0
    have h1' : decide ((0 : Int) < (n : Int)) = false := decide_eq_false (by omega)
    rw [h1, Bool.false_and] at ha
    have HA := hide ha
    clear ha h0
    go_wp2_with fail
    go_ret
    exact ⟨ret_bool (by rw [HA.out]), B1.out⟩
end Go.Proofs.Ytgidaifoiljgoaa
