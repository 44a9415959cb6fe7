/- Parts Meet, Rz, Ro, Rzp, SwA, SwB, SwC, SwD, SwE of the proof, put together. -/
import Derived.Test.YtefidbifgilekaaM6
import Derived.Outline
import Derived.Test.YtefidbifgilekaaSrt
import Derived.RangeFuncNested
import Derived.RangeFuncBound
import Derived.RangeFuncCalls
import Derived.RangeFuncLeaves
import Derived.OwnWalkIn
import Derived.TacticsInMore
import Derived.LoopNIn
import Derived.LoopIn
/- gap.Meet; sweep.Agree. -/
namespace Go.Proofs.Ytefidbifgilekaa
open Go.RowKit
set_option linter.unusedVariables false
set_option linter.unusedSimpArgs false
theorem rd_to {w1 W : World} {s n : Nat} {A : Option Addr} {xs : List Value} (hr : Rd w1 w1.heap.size s A n xs) (h : Below w1.heap.size w1 W) : Rd W W.heap.size s A n xs := (hr.below h).more h.size
def gcell (g : Int × Int) : List Value := [.int .i64 g.1, .int .i64 g.2]
def gcells (gs : List (Int × Int)) : List Value := (gs.map gcell).flatten
theorem gcells_len : ∀ gs : List (Int × Int), (gcells gs).length = gs.length * 2
  | [] => rfl
  | g :: r => by
    have := gcells_len r
    unfold gcells at this ⊢
    rw [List.map_cons, List.flatten_cons, List.length_append, this, List.length_cons]
    simp [gcell]; omega
theorem gcells_get : ∀ (gs : List (Int × Int)) (k j : Nat) (g : Int × Int), gs[k]? = some g → j < 2 → (gcells gs)[k * 2 + j]? = (gcell g)[j]?
  | [], k, j, g, h, _ => by simp at h
  | x :: r, 0, j, g, h, hj => by
    simp at h
    subst h
    unfold gcells
    rw [List.map_cons, List.flatten_cons, Nat.zero_mul, Nat.zero_add, List.getElem?_append_left (by simpa [gcell] using hj)]
  | x :: r, k + 1, j, g, h, hj => by
    have ih := gcells_get r k j g (by simpa using h) hj
    unfold gcells at ih ⊢
    rw [List.map_cons, List.flatten_cons, List.getElem?_append_right (by simp [gcell]; omega)]
    rw [show (k + 1) * 2 + j - (gcell x).length = k * 2 + j by simp [gcell]; omega]
    exact ih
/-- One gap of a slice. -/
theorem Rd.gap {w : World} {B n : Nat} {A : Option Addr} {gs : List (Int × Int)} (h : Rd w B 2 A n (gcells gs)) {k : Nat} (hk : k < n) :
    ∃ b off g, A = some ⟨b, off, none⟩ ∧ b < B ∧ gs[k]? = some g ∧ w.cell? ⟨b, off + k * 2, none⟩ = some (.int .i64 g.1) ∧ w.cell? ⟨b, off + k * 2 + 1, none⟩ = some (.int .i64 g.2) := by
  obtain ⟨b, off, e, hb, hc⟩ := h.at_ hk
  have hl := h.1
  rw [gcells_len] at hl
  have hlt : k < gs.length := by omega
  refine ⟨b, off, gs[k], e, hb, List.getElem?_eq_getElem hlt, ?_, ?_⟩
  · have h0 := gcells_get gs k 0 gs[k] (List.getElem?_eq_getElem hlt) (by omega)
    obtain ⟨h1, h2⟩ := List.getElem?_eq_some_iff.1 (h0.trans (show (gcell gs[k])[0]? = some _ from rfl))
    have := hc (k * 2 + 0) h1
    rw [h2] at this
    exact this
  · have h0 := gcells_get gs k 1 gs[k] (List.getElem?_eq_getElem hlt) (by omega)
    obtain ⟨h1, h2⟩ := List.getElem?_eq_some_iff.1 (h0.trans (show (gcell gs[k])[1]? = some _ from rfl))
    have := hc (k * 2 + 1) h1
    rw [h2] at this
    exact this
theorem Rd.lenG {w : World} {B n : Nat} {A : Option Addr} {gs : List (Int × Int)} (h : Rd w B 2 A n (gcells gs)) : gs.length = n := by
  have := h.1
  rw [gcells_len] at this
  omega
def okG (g : Int × Int) : Bool := decide (g.1 ≤ g.2)
def meetL (s : Int × Int) (gs : List (Int × Int)) : Int × Int := gs.foldl (fun a g => (max a.1 g.1, min a.2 g.2)) s
def foldR (s : Int × Int) (gs : List (Int × Int)) : (Int × Int) × Nat := if gs.all okG = false then ((0, 0), 10) else if okG (meetL s gs) = true then (meetL s gs, 0) else ((0, 0), 13)
theorem gv_ret {a b c d : Int} (h : a = c) (h' : b = d) : Ending.returned (.agg #[.int .i64 a, .int .i64 b]) = .returned (.agg #[.int .i64 c, .int .i64 d]) := by rw [h, h']
theorem meetF_any (a b c d : Int) (w : World) : Calls Try.prog 50 #[.agg (gv a b), .agg (gv c d)] w fun e w' => e = .returned (.agg (gv (max a c) (min b d))) ∧ Below w.heap.size w w' := by
  unfold gv
  have hsz : ((w.alloc (.cells #[.int .i64 a, .int .i64 b] 64)).alloc (.cells #[.int .i64 c, .int .i64 d] 64)).heap.size = w.heap.size + 1 + 1 := by simp
  go_enter Try.func50, Try.ntmps50
  go_wp2_with fail
  all_goals
    refine bodyPost_ret_by (results_cell rfl _ (w.heap.size + 1 + 1) rfl (gv _ _) _ (by rw [← hsz]; exact Blk.new _ _ _) Try.underlying64 rfl info100) rfl ⟨?_, (((Below.refl _ _).alloc (Nat.le_refl _) _).alloc (by simp) _).alloc (by simp; omega) _⟩
    exact gv_ret (by omega) (by omega)
set_option maxHeartbeats 1000000 in
set_option maxRecDepth 100000 in
theorem fold_any (s : Int × Int) (A : Option Addr) (n c : Nat) (gs : List (Int × Int)) (w : World) (hr : Rd w w.heap.size 2 A n (gcells gs)) (hn : n ≤ 140737488351232) :
    Calls Try.prog 49 #[.agg (gv s.1 s.2), .slice A n c, .func (.func 50) #[] #[]] w fun e w' => e = .returned (.tuple #[.agg (gv (foldR s gs).1.1 (foldR s gs).1.2), .int .i64 (foldR s gs).2]) ∧ Below w.heap.size w w' := by
  have HN := hide hr.lenG
  obtain ⟨R, hR⟩ : ∃ R, R = foldR s gs := ⟨_, rfl⟩
  rw [← hR]
  have HR := hide hR
  clear hR
  obtain ⟨s1, s2⟩ := s
  have hr0 := hide hr
  have K0 := hide (((Blks.nil w).new 64 (gv s1 s2)).new 64 (gv 0 0))
  rw [World.size_alloc] at K0
  have B0 := hide (show Below w.heap.size w ((w.alloc (.cells (gv s1 s2) 64)).alloc (.cells (gv 0 0) 64)) from ((Below.refl _ _).alloc (Nat.le_refl _) _).alloc (by simp) _)
  clear hr
  go_enter Try.func49, Try.ntmps49
  go_wp2_with fail
  go_loopw [7, 12] (fun e i wr => ∃ (k : Nat) (m1 m2 : Int), k ≤ n ∧ e = .int .i64 0 ∧ i = .int .i64 k ∧ Hid (Blks wr [(w.heap.size + 1, 64, gv 0 0), (w.heap.size, 64, gv m1 m2)]) ∧ Hid (Below w.heap.size w wr) ∧ Hid ((gs.take k).all okG = true ∧ meetL (s1, s2) (gs.take k) = (m1, m2))) (fun _ i _ => n - (intOf i).toNat)
  case atStart => exact ⟨0, s1, s2, Nat.zero_le _, rfl, rfl, K0, B0, hide ⟨rfl, rfl⟩⟩
  case round =>
    clear K0 B0
    obtain ⟨k, m1, m2, hk, rfl, rfl, KR, BR, HM⟩ := hrel
    by_cases hk1 : k < n
    · obtain ⟨b, off, ⟨g1, g2⟩, rfl, hb, hg, hc0, hc1⟩ := hr0.out.gap hk1
      have c0 := (BR.out.cell (p := ⟨b, off + k * 2, none⟩) hb).trans hc0
      have c1 := (BR.out.cell (p := ⟨b, off + k * 2 + 1, none⟩) hb).trans hc1
      have HG := hide hg
      clear hg hc0 hc1
      by_cases hok : g1 ≤ g2
      · have hok2 : decide (g1 ≤ g2) = true := decide_eq_true hok
        have BRs : w.heap.size ≤ wr.heap.size := BR.out.size
        go_wp2_with fail
        refine (gapRight_any g1 g2 _).mono ?_
        rintro e w1 ⟨rfl, hb1⟩
        rw [hok2]
        have K1 := hide ((KR.out.new 64 (gv g1 g2)).next hb1)
        have B1 := hide ((BR.out.alloc BRs (.cells (gv g1 g2) 64)).trans (hb1.mono (by simp; omega)))
        have k9 := K1.out.get 0 rfl
        have k3 := K1.out.get 2 rfl
        have d0 := k9.cell 0
        have d1 := k9.cell 1
        have e0 := k3.cell 0
        have e1 := k3.cell 1
        have f0 := k3.frozen 0
        have f1 := k3.frozen 1
        simp only [gv, List.getElem?_toArray, List.getElem?_cons_zero, List.getElem?_cons_succ] at d0 d1 e0 e1
        clear hb1 k9 k3 c0 c1
        go_wp2_with fail
        refine (meetF_any m1 m2 g1 g2 _).mono ?_
        rintro e w2 ⟨rfl, hb2⟩
        have K2 := hide (K1.out.next hb2)
        have B2 := hide (B1.out.trans (hb2.mono B1.out.size))
        clear hb2 d0 d1 e0 e1 f0 f1
        go_wp2_with (refine pause (.store 64 _ _) rfl ?_)
        refine unpause ?_
        have K3 := hide (show Blks (w2.setRow w.heap.size (gv (max m1 g1) (min m2 g2))) [(w.heap.size + 1, 64, gv 0 0), (w.heap.size, 64, gv (max m1 g1) (min m2 g2))] from (K2.out.row 2 rfl _).tail)
        have B3 := hide (below_setRow B2.out (g := w.heap.size) (Nat.le_refl _) (gv (max m1 g1) (min m2 g2)))
        refine wpList_store_blk rfl 64 (.tmp 3) (.tmp 23) rfl w.heap.size rfl (gv m1 m2) (gv (max m1 g1) (min m2 g2)) rfl (K2.out.get 2 rfl) rfl info100 (gv_one _ _) ?_
        have HM2 := hide (show (gs.take (k + 1)).all okG = true ∧ meetL (s1, s2) (gs.take (k + 1)) = (max m1 g1, min m2 g2) by
          have h := HM.out
          have e : gs.take (k + 1) = gs.take k ++ [(g1, g2)] := by rw [List.take_add_one, HG.out]; rfl
          rw [e, List.all_append, h.1]
          refine ⟨by simp [okG, hok], ?_⟩
          unfold meetL at h ⊢
          rw [List.foldl_append, h.2]
          rfl)
        generalize w2.setRow w.heap.size (gv (max m1 g1) (min m2 g2)) = w3 at *
        clear K1 B1 K2 B2 KR BR HM
        go_wp2_with fail
        go_roundw
        case rel => exact ⟨k + 1, _, _, by omega, rfl, by go_num, K3, B3, HM2⟩
        case measure => simp [intOf]; omega
      · have hok2 : decide (g1 ≤ g2) = false := decide_eq_false hok
        have BRs : w.heap.size ≤ wr.heap.size := BR.out.size
        have HF := hide (show R = ((0, 0), 10) by
          rw [HR.out]
          unfold foldR
          rw [if_pos]
          rw [List.all_eq_false]
          exact ⟨(g1, g2), List.mem_of_getElem? HG.out, by simp [okG, hok]⟩)
        go_wp2_with fail
        refine (gapRight_any g1 g2 _).mono ?_
        rintro e w1 ⟨rfl, hb1⟩
        rw [hok2]
        have K1 := hide ((KR.out.new 64 (gv g1 g2)).next hb1)
        have B1 := hide ((BR.out.alloc BRs (.cells (gv g1 g2) 64)).trans (hb1.mono (by simp; omega)))
        clear hb1 c0 c1
        go_wp2_with (refine pause (.store 64 _ _) rfl ?_)
        refine unpause ?_
        refine wpList_store_blk rfl 64 (.tmp 6) (.tmp 19) rfl (w.heap.size + 1) rfl (gv 0 0) (gv 0 0) rfl (K1.out.get 1 rfl) rfl info100 (gv_one _ _) ?_
        go_wp2_with fail
        refine bodyPost_ret_by (results_cell2 rfl _ (w.heap.size + 1) rfl (gv 0 0) _ ((K1.out.get 1 rfl).setRow _) Try.underlying64 rfl info100) rfl ⟨?_, below_setRow B1.out (by omega) _⟩
        rw [HF.out]
        rfl
    · have hkn : k = n := by omega
      subst hkn
      have hm := HM.out
      rw [show gs.take k = gs from List.take_of_length_le (by have := HN.out; omega)] at hm
      have k3 := KR.out.get 1 rfl
      have e0 := k3.cell 0
      have e1 := k3.cell 1
      simp only [gv, List.getElem?_toArray, List.getElem?_cons_zero, List.getElem?_cons_succ] at e0 e1
      clear k3
      by_cases hok : m1 ≤ m2
      · have hok2 : decide (m1 ≤ m2) = true := decide_eq_true hok
        have HF := hide (show R = ((m1, m2), 0) by
          rw [HR.out]
          unfold foldR
          rw [if_neg (by rw [hm.1]; simp), hm.2, if_pos (by simp [okG, hok])])
        clear hm
        go_wp2_with fail
        refine (gapRight_any m1 m2 _).mono ?_
        rintro e w1 ⟨rfl, hb1⟩
        rw [hok2]
        have K1 := hide (KR.out.next hb1)
        have B1 := hide (BR.out.trans (hb1.mono BR.out.size))
        have k3 := K1.out.get 1 rfl
        have e0 := k3.cell 0
        have e1 := k3.cell 1
        simp only [gv, List.getElem?_toArray, List.getElem?_cons_zero, List.getElem?_cons_succ] at e0 e1
        clear hb1 k3
        go_wp2_with (refine pause (.store 64 _ _) rfl ?_)
        refine unpause ?_
        refine wpList_store_blk rfl 64 (.tmp 6) (.tmp 29) rfl (w.heap.size + 1) rfl (gv 0 0) (gv m1 m2) rfl (K1.out.get 0 rfl) rfl info100 (gv_one _ _) ?_
        go_wp2_with fail
        refine bodyPost_ret_by (results_cell2 rfl _ (w.heap.size + 1) rfl (gv m1 m2) _ ((K1.out.get 0 rfl).setRow _) Try.underlying64 rfl info100) rfl ⟨?_, below_setRow B1.out (by omega) _⟩
        rw [HF.out]
        rfl
      · have hok2 : decide (m1 ≤ m2) = false := decide_eq_false hok
        have HF := hide (show R = ((0, 0), 13) by
          rw [HR.out]
          unfold foldR
          rw [if_neg (by rw [hm.1]; simp), hm.2, if_neg (by simp [okG, hok])])
        clear hm
        go_wp2_with fail
        refine (gapRight_any m1 m2 _).mono ?_
        rintro e w1 ⟨rfl, hb1⟩
        rw [hok2]
        have K1 := hide (KR.out.next hb1)
        have B1 := hide (BR.out.trans (hb1.mono BR.out.size))
        clear hb1 e0 e1
        go_wp2_with (refine pause (.store 64 _ _) rfl ?_)
        refine unpause ?_
        refine wpList_store_blk rfl 64 (.tmp 6) (.tmp 28) rfl (w.heap.size + 1) rfl (gv 0 0) (gv 0 0) rfl (K1.out.get 0 rfl) rfl info100 (gv_one _ _) ?_
        go_wp2_with fail
        refine bodyPost_ret_by (results_cell2 rfl _ (w.heap.size + 1) rfl (gv 0 0) _ ((K1.out.get 0 rfl).setRow _) Try.underlying64 rfl info100) rfl ⟨?_, below_setRow B1.out (by omega) _⟩
        rw [HF.out]
        rfl
def allG : Int × Int := (-9223372036854775808, 9223372036854775807)
def meetR (gs : List (Int × Int)) : (Int × Int) × Nat := foldR allG gs
set_option maxHeartbeats 1000000 in
set_option maxRecDepth 100000 in
theorem meet_any (A : Option Addr) (n c : Nat) (gs : List (Int × Int)) (w : World) (hr : Rd w w.heap.size 2 A n (gcells gs)) (hn : n ≤ 140737488351232) :
    Calls Try.prog 38 #[.slice A n c] w fun e w' => e = .returned (.tuple #[.agg (gv (meetR gs).1.1 (meetR gs).1.2), .int .i64 (meetR gs).2]) ∧ Below w.heap.size w w' := by
  have K0 := hide (((Blks.nil w).new 64 (gv 0 0)).new 64 (gv (-9223372036854775808) 9223372036854775807))
  rw [World.size_alloc] at K0
  have B0 := hide (show Below w.heap.size w ((w.alloc (.cells (gv 0 0) 64)).alloc (.cells (gv (-9223372036854775808) 9223372036854775807) 64)) from ((Below.refl _ _).alloc (Nat.le_refl _) _).alloc (by simp) _)
  have HF := hide (fun w => fold_any allG A n c gs w)
  have HMR : Hid (meetR gs = foldR allG gs) := hide rfl
  rw [← HMR.out] at HF
  have R0 := hide (rd_to hr B0.out)
  generalize meetR gs = R at *
  obtain ⟨⟨m1, m2⟩, er⟩ := R
  clear hr HMR
  go_enter Try.func38, Try.ntmps38
  go_wp2_with fail
  refine (HF.out _ R0.out hn).mono ?_
  rintro e w1 ⟨rfl, hb1⟩
  have K1 := hide (K0.out.next hb1)
  have B1 := hide (B0.out.trans (hb1.mono B0.out.size))
  clear hb1 K0 B0 HF R0
  go_wp2_with (refine pause (.store 64 _ _) rfl ?_)
  refine unpause ?_
  refine wpList_store_blk rfl 64 (.tmp 2) (.tmp 9) rfl w.heap.size rfl (gv 0 0) (gv m1 m2) rfl (K1.out.get 1 rfl) rfl info100 (gv_one _ _) ?_
  go_wp2_with fail
  refine bodyPost_ret_by (results_cell2 rfl _ w.heap.size rfl (gv m1 m2) _ ((K1.out.get 1 rfl).setRow _) Try.underlying64 rfl info100) rfl ⟨rfl, below_setRow B1.out (Nat.le_refl _) _⟩
def agreeB (gs : List (Int × Int)) : Bool := decide (0 < gs.length) && decide ((meetR gs).2 = 0)
set_option maxHeartbeats 1000000 in
set_option maxRecDepth 100000 in
theorem agree_any (A : Option Addr) (n c : Nat) (gs : List (Int × Int)) (w : World) (hr : Rd w w.heap.size 2 A n (gcells gs)) (hn : n ≤ 140737488351232) :
    Calls Try.prog 32 #[.slice A n c] w fun e w' => e = .returned (.bool (agreeB gs)) ∧ Below w.heap.size w w' := by
  have HN := hide hr.lenG
  have HM := hide (fun w => meet_any A n c gs w)
  have HA : Hid (agreeB gs = (decide (0 < gs.length) && decide ((meetR gs).2 = 0))) := hide rfl
  have HR0 := hide hr
  generalize agreeB gs = r at *
  generalize meetR gs = R at *
  obtain ⟨⟨m1, m2⟩, er⟩ := R
  clear hr
  go_enter Try.func32, Try.ntmps32
  go_wp2_with fail
  refine (HM.out _ HR0.out hn).mono ?_
  rintro e w1 ⟨rfl, hb1⟩
  go_wp2_with (refine pause (.store 64 _ _) rfl ?_)
  refine unpause ?_
  have B1 := hide (below_setRow (hb1.alloc hb1.size (.cells #[.int .i64 0, .int .i64 0] 64)) (g := w1.heap.size) hb1.size (gv m1 m2))
  refine wpList_store_blk rfl 64 (.tmp 3) (.tmp 8) rfl w1.heap.size rfl #[.int .i64 0, .int .i64 0] (gv m1 m2) rfl (Blk.new _ _ _) rfl info100 (gv_one _ _) ?_
  generalize (w1.alloc (.cells #[.int .i64 0, .int .i64 0] 64)).setRow w1.heap.size (gv m1 m2) = w2 at *
  have ha := HA.out
  rw [HN.out] at ha
  clear hb1 HM HR0 HN HA
  by_cases h0 : 0 < n
  · have h1 : decide (0 < n) = true := decide_eq_true h0
    have h1' : decide ((0 : Int) < (n : Int)) = true := decide_eq_true (by omega)
    rw [h1, Bool.true_and] at ha
    have HA := hide ha
    clear ha h0
    go_wp2_with fail
    go_ret
    exact ⟨ret_bool (by rw [HA.out]; rw [Bool.eq_iff_iff]; simp), B1.out⟩
  · have h1 : decide (0 < n) = false := decide_eq_false h0
    have h1' : decide ((0 : Int) < (n : Int)) = false := decide_eq_false (by omega)
    rw [h1, Bool.false_and] at ha
    have HA := hide ha
    clear ha h0
    go_wp2_with fail
    go_ret
    exact ⟨ret_bool (by rw [HA.out]), B1.out⟩
end Go.Proofs.Ytefidbifgilekaa
/- The document's gaps: Right. -/
namespace Go.Proofs.Ytefidbifgilekaa
set_option linter.unusedSimpArgs false
set_option linter.unusedVariables false
open Go.RowKit
set_option maxRecDepth 100000
theorem refRight_sat (g : Int × Int) : Sat Try.prog 47 [gA g] [] (bA (okG g)) [] := by
  refine sat_of_vc (T := tiOf Try.prog) (E := E0) Try.func47 rfl rfl hE0 hm0 rfl ?_
  conv => whnf
  repeat (any_goals (first
    | exact True.intro
    | (refine Or.inl ?_; conv => whnf)
    | (refine And.intro (fun _ => ?_) tf; conv => whnf)
    | (refine And.intro ft (fun _ => ?_); conv => whnf)
    | (refine And.intro (by kernel_rfl) ?_; conv => whnf)
    | (refine And.intro (by decide) ?_; conv => whnf)
    | (refine And.intro (fun _ => ?_) (fun h => absurd h (by decide)); conv => whnf)
    | (refine And.intro (fun h => absurd h (by decide)) (fun _ => ?_); conv => whnf)
    | (refine And.intro (fun _ => ?_) (fun _ => ?_) <;> conv => whnf)))
  all_goals refine ⟨[], ?_⟩
  repeat (any_goals (first | exact True.intro | exact rfl | with_reducible_and_instances rfl | exact (by kernel_rfl) | refine And.intro ?_ ?_))
  all_goals conv => whnf
theorem gapRight_sat (g : Int × Int) : Sat Try.prog 34 [gA g] [] (bA (okG g)) [] :=
  .of_calls (by repeat constructor) (by repeat constructor) fun w => gapRight_any g.1 g.2 w
theorem gR_flat (g : Int × Int) : FlatVs (gR g) (gcell g) := by repeat constructor
theorem meet_sat (gs : List (Int × Int)) (hn : gs.length ≤ 140737488351232) : Sat Try.prog 38 [.d (.sl 2 (gs.map gR))] [] (.tup [gA (meetR gs).1, iA (meetR gs).2]) [] := by
  intro F ρ w vals En hv
  obtain ⟨v, rfl, hv'⟩ := hv.one_out
  cases hv' with | d hv =>
    obtain ⟨A, c, rfl, h1, h2, hr⟩ := hv.sl_rd En.fb (flat_map gR_flat gs)
    rw [List.length_map] at hr ⊢
    refine (meet_any A _ c gs w hr hn).mono ?_
    rintro e w' ⟨rfl, hb⟩
    obtain ⟨S, E'⟩ := step_below En hb
    exact ⟨_, rfl, F, ρ, S, Keep.refl _, E', FlatW.ra (by repeat constructor)⟩
theorem agree_sat (gs : List (Int × Int)) (hn : gs.length ≤ 140737488351232) : Sat Try.prog 32 [.d (.sl 2 (gs.map gR))] [] (bA (agreeB gs)) [] := by
  intro F ρ w vals En hv
  obtain ⟨v, rfl, hv'⟩ := hv.one_out
  cases hv' with | d hv =>
    obtain ⟨A, c, rfl, h1, h2, hr⟩ := hv.sl_rd En.fb (flat_map gR_flat gs)
    rw [List.length_map] at hr ⊢
    refine (agree_any A _ c gs w hr hn).mono ?_
    rintro e w' ⟨rfl, hb⟩
    obtain ⟨S, E'⟩ := step_below En hb
    exact ⟨_, rfl, F, ρ, S, Keep.refl _, E', .d (.v _)⟩
def midZ (g : Int × Int) : Int := if okG g = true then IntKind.i64.wrap (IntKind.i64.wrap (BitVec.ofInt IntKind.i64.bits g.1 &&& BitVec.ofInt IntKind.i64.bits g.2).toNat + (IntKind.i64.wrap (BitVec.ofInt IntKind.i64.bits g.1 ^^^ BitVec.ofInt IntKind.i64.bits g.2).toNat).fdiv (2 ^ (min (1 : Int).toNat IntKind.i64.bits))) else 0
theorem mid_sat (g : Int × Int) : Sat Try.prog 37 [gA g] [] (iA (midZ g)) [] := by
  refine sat_of_vc (T := tiOf Try.prog) (E := E0) Try.func37 rfl rfl hE0 hm0 rfl ?_
  conv => whnf
  repeat (any_goals (first
    | exact True.intro
    | (refine Or.inl ?_; conv => whnf)
    | (refine And.intro (fun _ => ?_) tf; conv => whnf)
    | (refine And.intro ft (fun _ => ?_); conv => whnf)
    | (refine And.intro (by kernel_rfl) ?_; conv => whnf)
    | (refine And.intro (by decide) ?_; conv => whnf)
    | (refine And.intro (fun _ => ?_) (fun h => absurd h (by decide)); conv => whnf)
    | (refine And.intro (fun h => absurd h (by decide)) (fun _ => ?_); conv => whnf)
    | (refine And.intro (fun _ => ?_) (fun _ => ?_) <;> conv => whnf)
    | (refine ⟨_, _, (gapRight_sat _).pu rfl rfl, ?_⟩; conv => whnf)))
  · have h : ¬ okG g = true := (by (try simp only [decide_eq_true_eq, decide_eq_false_iff_not, Bool.not_eq_true', Bool.not_eq_false', Bool.not_eq_true, Bool.not_eq_false, beq_iff_eq, bne_iff_ne, beq_eq_false_iff_ne, bne_eq_false_iff_eq, ne_eq, Decidable.not_not, Int.natCast_eq_zero] at *); first | omega | assumption | (simp_all; done) | (simp_all; omega))
    unfold midZ
    rw [if_neg h]
    all_goals refine ⟨[], ?_⟩
    repeat (any_goals (first | exact True.intro | exact rfl | with_reducible_and_instances rfl | exact (by kernel_rfl) | refine And.intro ?_ ?_))
    all_goals conv => whnf
  · have h : okG g = true := (by (try simp only [decide_eq_true_eq, decide_eq_false_iff_not, Bool.not_eq_true', Bool.not_eq_false', Bool.not_eq_true, Bool.not_eq_false, beq_iff_eq, bne_iff_ne, beq_eq_false_iff_ne, bne_eq_false_iff_eq, ne_eq, Decidable.not_not, Int.natCast_eq_zero] at *); first | omega | assumption | (simp_all; done) | (simp_all; omega))
    unfold midZ
    rw [if_pos h]
    all_goals refine ⟨[], ?_⟩
    repeat (any_goals (first | exact True.intro | exact rfl | with_reducible_and_instances rfl | exact (by kernel_rfl) | refine And.intro ?_ ?_))
    all_goals conv => whnf
theorem meetL_snoc (a : Int × Int) (gs : List (Int × Int)) (x : Int × Int) : meetL a (gs ++ [x]) = (max (meetL a gs).1 x.1, min (meetL a gs).2 x.2) := by
  unfold meetL; rw [List.foldl_append]; rfl
theorem meetR_ok {gs : List (Int × Int)} (h : (meetR gs).2 = 0) : gs.all okG = true ∧ okG (meetL allG gs) = true ∧ (meetR gs).1 = meetL allG gs := by
  unfold meetR foldR at h ⊢
  by_cases h1 : gs.all okG = false
  · rw [if_pos h1] at h; cases h
  · rw [if_neg h1] at h ⊢
    by_cases h2 : okG (meetL allG gs) = true
    · rw [if_pos h2]; exact ⟨by simpa using h1, h2, rfl⟩
    · rw [if_neg h2] at h; cases h
def withB (g o : Int × Int) : Bool := okG g && decide (o.1 ≤ g.1) && decide (g.2 ≤ o.2)
theorem within_sat (g o : Int × Int) : Sat Try.prog 36 [gA g, gA o] [] (bA (withB g o)) [] := by
  refine sat_of_vc (T := tiOf Try.prog) (E := E0) Try.func36 rfl rfl hE0 hm0 rfl ?_
  conv => whnf
  repeat (any_goals (first
    | exact True.intro
    | (refine Or.inl ?_; conv => whnf)
    | (refine And.intro (fun _ => ?_) tf; conv => whnf)
    | (refine And.intro ft (fun _ => ?_); conv => whnf)
    | (refine And.intro (by kernel_rfl) ?_; conv => whnf)
    | (refine And.intro (by decide) ?_; conv => whnf)
    | (refine And.intro (fun _ => ?_) (fun h => absurd h (by decide)); conv => whnf)
    | (refine And.intro (fun h => absurd h (by decide)) (fun _ => ?_); conv => whnf)
    | (refine And.intro (fun _ => ?_) (fun _ => ?_) <;> conv => whnf)
    | (refine ⟨_, _, (gapRight_sat _).pu rfl rfl, ?_⟩; conv => whnf)))
  all_goals refine ⟨[], ?_⟩
  repeat (any_goals (first | exact True.intro | exact rfl | with_reducible_and_instances rfl | exact (by kernel_rfl) | refine And.intro ?_ ?_))
  all_goals conv => whnf
  all_goals first | (simp_all [withB]; done) | (simp_all [withB]; omega)
theorem meetL_le (a : Int × Int) (gs : List (Int × Int)) {x : Int × Int} (h : x ∈ gs) : x.1 ≤ (meetL a gs).1 ∧ (meetL a gs).2 ≤ x.2 := by
  have base : ∀ (gs : List (Int × Int)) (a : Int × Int), a.1 ≤ (meetL a gs).1 ∧ (meetL a gs).2 ≤ a.2 := by
    intro gs
    induction gs with
    | nil => intro a; exact ⟨Int.le_refl _, Int.le_refl _⟩
    | cons y r ih =>
      intro a
      have := ih (max a.1 y.1, min a.2 y.2)
      unfold meetL at this ⊢
      rw [List.foldl_cons]
      simp only at this
      omega
  induction gs generalizing a with
  | nil => simp at h
  | cons y r ih =>
    have e : meetL a (y :: r) = meetL (max a.1 y.1, min a.2 y.2) r := rfl
    rw [e]
    rcases List.mem_cons.1 h with q | q
    · subst q
      have := base r (max a.1 x.1, min a.2 x.2)
      simp only at this
      omega
    · exact ih _ q
theorem nat_avg (k : Nat) : ∀ (a b : Nat), a < 2 ^ k → b < 2 ^ k → a + b = 2 * (a &&& b) + (a ^^^ b) := by
  induction k with
  | zero => intro a b ha hb; simp at ha hb; subst ha hb; rfl
  | succ k ih =>
    intro a b ha hb
    have h := ih (a / 2) (b / 2) (by rw [Nat.pow_succ] at ha; omega) (by rw [Nat.pow_succ] at hb; omega)
    have e1 : (a &&& b) / 2 = a / 2 &&& b / 2 := Nat.and_div_two
    have e2 : (a ^^^ b) / 2 = a / 2 ^^^ b / 2 := Nat.xor_div_two
    have f1 : (a &&& b) % 2 = a % 2 &&& b % 2 := Nat.and_mod_two_pow (n := 1)
    have f2 : (a ^^^ b) % 2 = a % 2 ^^^ b % 2 := Nat.xor_mod_two_pow (n := 1)
    have f3 : a % 2 + b % 2 = 2 * (a % 2 &&& b % 2) + (a % 2 ^^^ b % 2) := by
      rcases Nat.mod_two_eq_zero_or_one a with h | h <;> rcases Nat.mod_two_eq_zero_or_one b with h' | h' <;> rw [h, h'] <;> rfl
    rw [← f1, ← f2] at f3
    rw [← e1, ← e2] at h
    omega
theorem avg_bv (x y : BitVec 64) : 2 * (x &&& y).toInt + (x ^^^ y).toInt = x.toInt + y.toInt := by
  have hn := nat_avg 64 x.toNat y.toNat (BitVec.isLt _) (BitVec.isLt _)
  rw [← BitVec.toNat_and, ← BitVec.toNat_xor] at hn
  rw [BitVec.toInt_eq_msb_cond x, BitVec.toInt_eq_msb_cond y, BitVec.toInt_eq_msb_cond (x &&& y), BitVec.toInt_eq_msb_cond (x ^^^ y), BitVec.msb_and, BitVec.msb_xor]
  generalize (x &&& y).toNat = C at *
  generalize (x ^^^ y).toNat = D at *
  generalize x.toNat = A at *
  generalize y.toNat = B at *
  cases x.msb <;> cases y.msb <;> simp <;> omega
theorem toInt_w (x : BitVec 64) : IntKind.i64.wrap (x.toNat : Int) = x.toInt := by
  have h := x.isLt
  rw [IntKind.wrap_i64, BitVec.toInt_eq_toNat_cond]
  split <;> omega
theorem mid_floor (g : Int × Int) (h1 : -9223372036854775808 ≤ g.1 ∧ g.1 ≤ 9223372036854775807) (h2 : -9223372036854775808 ≤ g.2 ∧ g.2 ≤ 9223372036854775807) : midZ g = if okG g = true then (g.1 + g.2) / 2 else 0 := by
  unfold midZ
  split
  case isFalse => rfl
  show IntKind.i64.wrap (IntKind.i64.wrap ((BitVec.ofInt 64 g.1 &&& BitVec.ofInt 64 g.2).toNat : Int) + (IntKind.i64.wrap ((BitVec.ofInt 64 g.1 ^^^ BitVec.ofInt 64 g.2).toNat : Int)).fdiv (2 ^ min (1 : Int).toNat IntKind.i64.bits)) = _
  rw [toInt_w, toInt_w, show min (1 : Int).toNat IntKind.i64.bits = 1 from rfl, show (2 : Int) ^ 1 = 2 from rfl, Int.fdiv_eq_ediv_of_nonneg _ (by omega)]
  have ha : (BitVec.ofInt 64 g.1).toInt = g.1 := by rw [BitVec.toInt_ofInt]; exact Int.bmod_eq_of_le (by omega) (by omega)
  have hb : (BitVec.ofInt 64 g.2).toInt = g.2 := by rw [BitVec.toInt_ofInt]; exact Int.bmod_eq_of_le (by omega) (by omega)
  have key := avg_bv (BitVec.ofInt 64 g.1) (BitVec.ofInt 64 g.2)
  rw [ha, hb] at key
  show IntKind.i64.wrap ((BitVec.ofInt 64 g.1 &&& BitVec.ofInt 64 g.2).toInt + (BitVec.ofInt 64 g.1 ^^^ BitVec.ofInt 64 g.2).toInt / 2) = _
  rw [wi (by omega) (by omega)]
  omega
end Go.Proofs.Ytefidbifgilekaa
/- The document's sweep: Votes, Best, Agree. -/
namespace Go.Proofs.Ytefidbifgilekaa
set_option linter.unusedSimpArgs false
set_option linter.unusedVariables false
open Go.RowKit
set_option maxRecDepth 100000
def hasG (x : Int) (g : Int × Int) : Bool := decide (g.1 ≤ x ∧ x ≤ g.2)
def votesN (x : Int) (gs : List (Int × Int)) : Nat := gs.countP (hasG x)
theorem votes_sat (x : Int) (gs : List (Int × Int)) (hn : gs.length ≤ 1000000000) : Sat Try.prog 31 [iA x, .d (.sl 2 (gs.map gR))] [] (iA (votesN x gs)) [] := by
  have hm : (gs.map gR).length = gs.length := List.length_map _
  refine sat_of_vc (T := tiOf Try.prog) (E := E0) Try.func31 rfl rfl hE0 hm0 rfl ?_
  conv => whnf
  repeat (any_goals (first
    | exact True.intro
    | (refine Or.inl ?_; conv => whnf)
    | (refine And.intro (fun _ => ?_) tf; conv => whnf)
    | (refine And.intro ft (fun _ => ?_); conv => whnf)
    | (refine And.intro (by kernel_rfl) ?_; conv => whnf)
    | (refine And.intro (by decide) ?_; conv => whnf)
    | (refine And.intro (fun _ => ?_) (fun h => absurd h (by decide)); conv => whnf)
    | (refine And.intro (fun h => absurd h (by decide)) (fun _ => ?_); conv => whnf)
    | (refine And.intro (fun _ => ?_) (fun _ => ?_) <;> conv => whnf)))
  refine ⟨Nat, fun k => k ≤ gs.length, fun k => ([(6, iA k), (5, iA (votesN x (gs.take k))), (0, iA x), (1, .d (.sl 2 (gs.map gR)))], []), fun k => gs.length - k, ⟨0, Nat.zero_le _, ?_⟩, ?_⟩
  · all_goals refine ⟨[], ?_⟩
    repeat (any_goals (first | exact True.intro | exact rfl | with_reducible_and_instances rfl | exact (by kernel_rfl) | refine And.intro ?_ ?_))
    all_goals conv => whnf
  intro k hk
  conv => whnf
  have hv : votesN x (gs.take k) ≤ gs.length := Nat.le_trans List.countP_le_length (by rw [List.length_take]; omega)
  by_cases hlt : k < gs.length
  · have hx : gs[k]? = some gs[k] := List.getElem?_eq_getElem hlt
    generalize gs[k] = g at hx
    have hst : votesN x (gs.take (k + 1)) = votesN x (gs.take k) + if hasG x g = true then 1 else 0 := count_take_succ hx
    have nx : ∀ b : Bool, hasG x g = b → votesN x (gs.take (k + 1)) = votesN x (gs.take k) + if b = true then 1 else 0 := fun b h => by rw [hst, h]
    repeat (any_goals (first
      | exact True.intro
      | (refine Or.inl ?_; conv => whnf)
      | (refine And.intro (fun _ => ?_) tf; conv => whnf)
      | (refine And.intro ft (fun _ => ?_); conv => whnf)
      | (refine And.intro (by kernel_rfl) ?_; conv => whnf)
      | (refine And.intro (by decide) ?_; conv => whnf)
      | (refine And.intro (fun _ => ?_) (fun h => absurd h (by decide)); conv => whnf)
      | (refine And.intro (fun h => absurd h (by decide)) (fun _ => ?_); conv => whnf)
      | (refine ⟨k, _, rfl, map_get hx, ?_⟩; conv => whnf)
      | (refine And.intro (fun _ => ?_) (fun _ => ?_) <;> conv => whnf)
      | (refine ⟨_, _, (refRight_sat g).pu rfl rfl, ?_⟩; conv => whnf)))
    all_goals try (exfalso; simp only [decide_eq_true_eq, decide_eq_false_iff_not, Bool.not_eq_true', Bool.not_eq_false', Bool.not_eq_true, Bool.not_eq_false, beq_iff_eq, bne_iff_ne, beq_eq_false_iff_ne, bne_eq_false_iff_eq, ne_eq, Decidable.not_not] at *; first | omega | contradiction | (simp_all; done) | (simp_all; omega))
    · have h : hasG x g = true := decide_eq_true ⟨(by (try simp only [decide_eq_true_eq, decide_eq_false_iff_not, Bool.not_eq_true', Bool.not_eq_false', Bool.not_eq_true, Bool.not_eq_false, beq_iff_eq, bne_iff_ne, beq_eq_false_iff_ne, bne_eq_false_iff_eq, ne_eq, Decidable.not_not, Int.natCast_eq_zero] at *); first | omega | assumption | (simp_all; done) | (simp_all; omega)), (by (try simp only [decide_eq_true_eq, decide_eq_false_iff_not, Bool.not_eq_true', Bool.not_eq_false', Bool.not_eq_true, Bool.not_eq_false, beq_iff_eq, bne_iff_ne, beq_eq_false_iff_ne, bne_eq_false_iff_eq, ne_eq, Decidable.not_not, Int.natCast_eq_zero] at *); first | omega | assumption | (simp_all; done) | (simp_all; omega))⟩
      refine ⟨k + 1, hlt, show gs.length - (k + 1) < gs.length - k by omega, ?_⟩
      all_goals refine ⟨[], ?_⟩
      repeat (any_goals (first | exact True.intro | exact rfl | with_reducible_and_instances rfl | exact (by kernel_rfl) | refine And.intro ?_ ?_))
      all_goals conv => whnf
      · exact wk1 (by omega)
      · rw [nx _ h]
        exact wk1 (by omega)
    · have h : hasG x g = false := decide_eq_false fun q => by have := q.2; first | omega | (simp_all; done) | (simp_all; omega)
      refine ⟨k + 1, hlt, show gs.length - (k + 1) < gs.length - k by omega, ?_⟩
      all_goals refine ⟨[], ?_⟩
      repeat (any_goals (first | exact True.intro | exact rfl | with_reducible_and_instances rfl | exact (by kernel_rfl) | refine And.intro ?_ ?_))
      all_goals conv => whnf
      · exact wk1 (by omega)
      · rw [nx _ h]; rfl
    · have h : hasG x g = false := decide_eq_false fun q => by have := q.1; first | omega | (simp_all; done) | (simp_all; omega)
      refine ⟨k + 1, hlt, show gs.length - (k + 1) < gs.length - k by omega, ?_⟩
      all_goals refine ⟨[], ?_⟩
      repeat (any_goals (first | exact True.intro | exact rfl | with_reducible_and_instances rfl | exact (by kernel_rfl) | refine And.intro ?_ ?_))
      all_goals conv => whnf
      · exact wk1 (by omega)
      · rw [nx _ h]; rfl
    · have h : hasG x g = false := decide_eq_false fun q => by have : okG g = true := decide_eq_true (by omega); simp_all
      refine ⟨k + 1, hlt, show gs.length - (k + 1) < gs.length - k by omega, ?_⟩
      all_goals refine ⟨[], ?_⟩
      repeat (any_goals (first | exact True.intro | exact rfl | with_reducible_and_instances rfl | exact (by kernel_rfl) | refine And.intro ?_ ?_))
      all_goals conv => whnf
      · exact wk1 (by omega)
      · rw [nx _ h]; rfl
  · have hke : k = gs.length := by omega
    subst hke
    repeat (any_goals (first
      | exact True.intro
      | (refine Or.inl ?_; conv => whnf)
      | (refine And.intro (fun _ => ?_) tf; conv => whnf)
      | (refine And.intro ft (fun _ => ?_); conv => whnf)
      | (refine And.intro (by kernel_rfl) ?_; conv => whnf)
      | (refine And.intro (by decide) ?_; conv => whnf)
      | (refine And.intro (fun _ => ?_) (fun h => absurd h (by decide)); conv => whnf)
      | (refine And.intro (fun h => absurd h (by decide)) (fun _ => ?_); conv => whnf)
      | (refine And.intro (fun _ => ?_) (fun _ => ?_) <;> conv => whnf)))
    all_goals try (exfalso; simp only [decide_eq_true_eq, decide_eq_false_iff_not, Bool.not_eq_true', Bool.not_eq_false', Bool.not_eq_true, Bool.not_eq_false, beq_iff_eq, bne_iff_ne, beq_eq_false_iff_ne, bne_eq_false_iff_eq, ne_eq, Decidable.not_not] at *; first | omega | contradiction | (simp_all; done) | (simp_all; omega))
    all_goals refine ⟨[], ?_⟩
    repeat (any_goals (first | exact True.intro | exact rfl | with_reducible_and_instances rfl | exact (by kernel_rfl) | refine And.intro ?_ ?_))
    all_goals conv => whnf
    rw [List.take_length]
def bstep (gs : List (Int × Int)) (s : Nat × Int) (g : Int × Int) : Nat × Int :=
  if s.1 < votesN g.1 gs ∨ (votesN g.1 gs = s.1 ∧ 0 < votesN g.1 gs ∧ g.1 < s.2) then (votesN g.1 gs, g.1) else s
def bestS (gs : List (Int × Int)) : Nat × Int := gs.foldl (bstep gs) (0, 0)
def hstep (x : Int) (h : Int) (g : Int × Int) : Int := if hasG x g = true then min h g.2 else h
def bestH (x : Int) (gs : List (Int × Int)) : Int := gs.foldl (hstep x) 9223372036854775807
def bestR (gs : List (Int × Int)) : (Int × Int) × Nat := if (bestS gs).1 = 0 then ((0, 0), 0) else (((bestS gs).2, bestH (bestS gs).2 gs), (bestS gs).1)
theorem votes_le (x : Int) (gs : List (Int × Int)) : votesN x gs ≤ gs.length := List.countP_le_length
theorem best_sat (gs : List (Int × Int)) (hn : gs.length ≤ 1000000000) : Sat Try.prog 26 [.d (.sl 2 (gs.map gR))] [] (.tup [gA (bestR gs).1, iA (bestR gs).2]) [] := by
  have hm : (gs.map gR).length = gs.length := List.length_map _
  refine sat_of_vc (T := tiOf Try.prog) (E := E0) Try.func26 rfl rfl hE0 hm0 rfl ?_
  conv => whnf
  repeat (any_goals (first
    | exact True.intro
    | (refine Or.inl ?_; conv => whnf)
    | (refine And.intro (fun _ => ?_) tf; conv => whnf)
    | (refine And.intro ft (fun _ => ?_); conv => whnf)
    | (refine And.intro (by kernel_rfl) ?_; conv => whnf)
    | (refine And.intro (by decide) ?_; conv => whnf)
    | (refine And.intro (fun _ => ?_) (fun h => absurd h (by decide)); conv => whnf)
    | (refine And.intro (fun h => absurd h (by decide)) (fun _ => ?_); conv => whnf)
    | (refine And.intro (fun _ => ?_) (fun _ => ?_) <;> conv => whnf)))
  refine ⟨Nat, fun k => k ≤ gs.length, fun k => ([(6, iA k), (4, iA ((gs.take k).foldl (bstep gs) (0, 0)).1), (5, .ptr 1 0), (2, .ptr 0 0), (0, .d (.sl 2 (gs.map gR)))], [.cells [iA 0, iA 0], .cells [iA ((gs.take k).foldl (bstep gs) (0, 0)).2, iA ((gs.take k).foldl (bstep gs) (0, 0)).2]]), fun k => gs.length - k, ⟨0, Nat.zero_le _, ?_⟩, ?_⟩
  · all_goals refine ⟨[], ?_⟩
    repeat (any_goals (first | exact True.intro | exact rfl | with_reducible_and_instances rfl | exact (by kernel_rfl) | refine And.intro ?_ ?_))
    all_goals conv => whnf
  intro k hk
  conv => whnf
  by_cases hlt : k < gs.length
  · have hx : gs[k]? = some gs[k] := List.getElem?_eq_getElem hlt
    generalize gs[k] = g at hx
    have vs := votes_sat g.1 gs hn
    have hst : (gs.take (k + 1)).foldl (bstep gs) (0, 0) = bstep gs ((gs.take k).foldl (bstep gs) (0, 0)) g := foldl_take_succ hx
    have hs1 : (((gs.take k).foldl (bstep gs) (0, 0)).1 < votesN g.1 gs ∨ (votesN g.1 gs = ((gs.take k).foldl (bstep gs) (0, 0)).1 ∧ 0 < votesN g.1 gs ∧ g.1 < ((gs.take k).foldl (bstep gs) (0, 0)).2)) → bstep gs ((gs.take k).foldl (bstep gs) (0, 0)) g = (votesN g.1 gs, g.1) := fun h => if_pos h
    have hs0 : ¬ (((gs.take k).foldl (bstep gs) (0, 0)).1 < votesN g.1 gs ∨ (votesN g.1 gs = ((gs.take k).foldl (bstep gs) (0, 0)).1 ∧ 0 < votesN g.1 gs ∧ g.1 < ((gs.take k).foldl (bstep gs) (0, 0)).2)) → bstep gs ((gs.take k).foldl (bstep gs) (0, 0)) g = (gs.take k).foldl (bstep gs) (0, 0) := fun h => if_neg h
    repeat (any_goals (first
      | exact True.intro
      | (refine Or.inl ?_; conv => whnf)
      | (refine And.intro (fun _ => ?_) tf; conv => whnf)
      | (refine And.intro ft (fun _ => ?_); conv => whnf)
      | (refine And.intro (by kernel_rfl) ?_; conv => whnf)
      | (refine And.intro (by decide) ?_; conv => whnf)
      | (refine And.intro (fun _ => ?_) (fun h => absurd h (by decide)); conv => whnf)
      | (refine And.intro (fun h => absurd h (by decide)) (fun _ => ?_); conv => whnf)
      | (refine ⟨k, _, rfl, map_get hx, ?_⟩; conv => whnf)
      | (refine And.intro (fun _ => ?_) (fun _ => ?_) <;> conv => whnf)
      | (refine ⟨_, _, vs.pu rfl rfl, ?_⟩; conv => whnf)))
    all_goals try (exfalso; simp only [decide_eq_true_eq, decide_eq_false_iff_not, Bool.not_eq_true', Bool.not_eq_false', Bool.not_eq_true, Bool.not_eq_false, beq_iff_eq, bne_iff_ne, beq_eq_false_iff_ne, bne_eq_false_iff_eq, ne_eq, Decidable.not_not] at *; first | omega | contradiction | (simp_all; done) | (simp_all; omega))
    all_goals refine ⟨k + 1, hlt, show gs.length - (k + 1) < gs.length - k by omega, ?_⟩
    · have h := hs1 (by simp only [decide_eq_true_eq, beq_iff_eq] at *; omega)
      rw [h] at hst
      all_goals refine ⟨[], ?_⟩
      repeat (any_goals (first | exact True.intro | exact rfl | with_reducible_and_instances rfl | exact (by kernel_rfl) | refine And.intro ?_ ?_))
      all_goals conv => whnf
      · exact wk1 (by omega)
      all_goals rw [hst]
    · have h := hs0 (by simp only [decide_eq_true_eq, decide_eq_false_iff_not, beq_iff_eq] at *; omega)
      rw [h] at hst
      all_goals refine ⟨[], ?_⟩
      repeat (any_goals (first | exact True.intro | exact rfl | with_reducible_and_instances rfl | exact (by kernel_rfl) | refine And.intro ?_ ?_))
      all_goals conv => whnf
      · exact wk1 (by omega)
      all_goals rw [hst]
    · have h := hs0 (by simp only [decide_eq_true_eq, decide_eq_false_iff_not, beq_iff_eq] at *; omega)
      rw [h] at hst
      all_goals refine ⟨[], ?_⟩
      repeat (any_goals (first | exact True.intro | exact rfl | with_reducible_and_instances rfl | exact (by kernel_rfl) | refine And.intro ?_ ?_))
      all_goals conv => whnf
      · exact wk1 (by omega)
      all_goals rw [hst]
    · have h := hs0 (by simp only [decide_eq_true_eq, decide_eq_false_iff_not, beq_eq_false_iff_ne] at *; omega)
      rw [h] at hst
      all_goals refine ⟨[], ?_⟩
      repeat (any_goals (first | exact True.intro | exact rfl | with_reducible_and_instances rfl | exact (by kernel_rfl) | refine And.intro ?_ ?_))
      all_goals conv => whnf
      · exact wk1 (by omega)
      all_goals rw [hst]
    · have h := hs1 (by simp only [decide_eq_true_eq, beq_iff_eq] at *; omega)
      rw [h] at hst
      all_goals refine ⟨[], ?_⟩
      repeat (any_goals (first | exact True.intro | exact rfl | with_reducible_and_instances rfl | exact (by kernel_rfl) | refine And.intro ?_ ?_))
      all_goals conv => whnf
      · exact wk1 (by omega)
      all_goals rw [hst]
  · have hke : k = gs.length := by omega
    subst hke
    have hb : (gs.take gs.length).foldl (bstep gs) (0, 0) = bestS gs := by rw [List.take_length]; rfl
    repeat (any_goals (first
      | exact True.intro
      | (refine Or.inl ?_; conv => whnf)
      | (refine And.intro (fun _ => ?_) tf; conv => whnf)
      | (refine And.intro ft (fun _ => ?_); conv => whnf)
      | (refine And.intro (by kernel_rfl) ?_; conv => whnf)
      | (refine And.intro (by decide) ?_; conv => whnf)
      | (refine And.intro (fun _ => ?_) (fun h => absurd h (by decide)); conv => whnf)
      | (refine And.intro (fun h => absurd h (by decide)) (fun _ => ?_); conv => whnf)
      | (refine And.intro (fun _ => ?_) (fun _ => ?_) <;> conv => whnf)))
    all_goals try (exfalso; simp only [decide_eq_true_eq, decide_eq_false_iff_not, Bool.not_eq_true', Bool.not_eq_false', Bool.not_eq_true, Bool.not_eq_false, beq_iff_eq, bne_iff_ne, beq_eq_false_iff_ne, bne_eq_false_iff_eq, ne_eq, Decidable.not_not] at *; first | omega | contradiction | (simp_all; done) | (simp_all; omega))
    · have hr : bestR gs = ((0, 0), 0) := if_pos (by have h := ‹(_ == _) = true›; rw [hb] at h; simp only [beq_iff_eq] at h; omega)
      rw [hr]
      all_goals refine ⟨[], ?_⟩
      repeat (any_goals (first | exact True.intro | exact rfl | with_reducible_and_instances rfl | exact (by kernel_rfl) | refine And.intro ?_ ?_))
      all_goals conv => whnf
    · have hr : bestR gs = (((bestS gs).2, bestH (bestS gs).2 gs), (bestS gs).1) := if_neg (by have h := ‹(_ == _) = false›; rw [hb] at h; simp only [beq_eq_false_iff_ne] at h; omega)
      rw [hr]
      rw [hb]
      generalize (bestS gs).2 = x
      refine ⟨Nat, fun k => k ≤ gs.length, fun k => ([(8, iA k), (4, iA (bestS gs).1), (5, .ptr 1 0), (2, .ptr 0 0), (0, .d (.sl 2 (gs.map gR)))], [.cells [iA 0, iA 0], .cells [iA x, iA ((gs.take k).foldl (hstep x) 9223372036854775807)]]), fun k => gs.length - k, ⟨0, Nat.zero_le _, ?_⟩, ?_⟩
      · all_goals refine ⟨[], ?_⟩
        repeat (any_goals (first | exact True.intro | exact rfl | with_reducible_and_instances rfl | exact (by kernel_rfl) | refine And.intro ?_ ?_))
        all_goals conv => whnf
        all_goals rw [hb]
      intro k hk
      conv => whnf
      by_cases hlt : k < gs.length
      · have hx : gs[k]? = some gs[k] := List.getElem?_eq_getElem hlt
        generalize gs[k] = g at hx
        have hst : (gs.take (k + 1)).foldl (hstep x) 9223372036854775807 = hstep x ((gs.take k).foldl (hstep x) 9223372036854775807) g := foldl_take_succ hx
        have nx : ∀ b : Bool, hasG x g = b → (gs.take (k + 1)).foldl (hstep x) 9223372036854775807 = if b = true then min ((gs.take k).foldl (hstep x) 9223372036854775807) g.2 else (gs.take k).foldl (hstep x) 9223372036854775807 := fun b h => by rw [hst]; unfold hstep; rw [h]
        repeat (any_goals (first
          | exact True.intro
          | (refine Or.inl ?_; conv => whnf)
          | (refine And.intro (fun _ => ?_) tf; conv => whnf)
          | (refine And.intro ft (fun _ => ?_); conv => whnf)
          | (refine And.intro (by kernel_rfl) ?_; conv => whnf)
          | (refine And.intro (by decide) ?_; conv => whnf)
          | (refine And.intro (fun _ => ?_) (fun h => absurd h (by decide)); conv => whnf)
          | (refine And.intro (fun h => absurd h (by decide)) (fun _ => ?_); conv => whnf)
          | (refine ⟨k, _, rfl, map_get hx, ?_⟩; conv => whnf)
          | (refine And.intro (fun _ => ?_) (fun _ => ?_) <;> conv => whnf)
          | (refine ⟨_, _, (refRight_sat g).pu rfl rfl, ?_⟩; conv => whnf)))
        all_goals try (exfalso; simp only [decide_eq_true_eq, decide_eq_false_iff_not, Bool.not_eq_true', Bool.not_eq_false', Bool.not_eq_true, Bool.not_eq_false, beq_iff_eq, bne_iff_ne, beq_eq_false_iff_ne, bne_eq_false_iff_eq, ne_eq, Decidable.not_not] at *; first | omega | contradiction | (simp_all; done) | (simp_all; omega))
        all_goals refine ⟨k + 1, hlt, show gs.length - (k + 1) < gs.length - k by omega, ?_⟩
        · have h := nx true (decide_eq_true ⟨of_decide_eq_true ‹decide (g.1 ≤ x) = true›, of_decide_eq_true ‹decide (g.2 ≥ x) = true›⟩)
          all_goals refine ⟨[], ?_⟩
          repeat (any_goals (first | exact True.intro | exact rfl | with_reducible_and_instances rfl | exact (by kernel_rfl) | refine And.intro ?_ ?_))
          all_goals conv => whnf
          · exact wk1 (by omega)
          · refine congrArg iA ?_
            rw [h, if_pos rfl]
            split <;> omega
        · have h := nx false (decide_eq_false fun q => of_decide_eq_false ‹decide (g.2 ≥ x) = false› q.2)
          all_goals refine ⟨[], ?_⟩
          repeat (any_goals (first | exact True.intro | exact rfl | with_reducible_and_instances rfl | exact (by kernel_rfl) | refine And.intro ?_ ?_))
          all_goals conv => whnf
          · exact wk1 (by omega)
          · rw [h]; rfl
        · have h := nx false (decide_eq_false fun q => of_decide_eq_false ‹decide (g.1 ≤ x) = false› q.1)
          all_goals refine ⟨[], ?_⟩
          repeat (any_goals (first | exact True.intro | exact rfl | with_reducible_and_instances rfl | exact (by kernel_rfl) | refine And.intro ?_ ?_))
          all_goals conv => whnf
          · exact wk1 (by omega)
          · rw [h]; rfl
        · have h := nx false (decide_eq_false fun q => by have : okG g = true := decide_eq_true (by omega); simp_all)
          all_goals refine ⟨[], ?_⟩
          repeat (any_goals (first | exact True.intro | exact rfl | with_reducible_and_instances rfl | exact (by kernel_rfl) | refine And.intro ?_ ?_))
          all_goals conv => whnf
          · exact wk1 (by omega)
          · rw [h]; rfl
      · have hke : k = gs.length := by omega
        subst hke
        repeat (any_goals (first
          | exact True.intro
          | (refine Or.inl ?_; conv => whnf)
          | (refine And.intro (fun _ => ?_) tf; conv => whnf)
          | (refine And.intro ft (fun _ => ?_); conv => whnf)
          | (refine And.intro (by kernel_rfl) ?_; conv => whnf)
          | (refine And.intro (by decide) ?_; conv => whnf)
          | (refine And.intro (fun _ => ?_) (fun h => absurd h (by decide)); conv => whnf)
          | (refine And.intro (fun h => absurd h (by decide)) (fun _ => ?_); conv => whnf)
          | (refine And.intro (fun _ => ?_) (fun _ => ?_) <;> conv => whnf)))
        all_goals try (exfalso; simp only [decide_eq_true_eq, decide_eq_false_iff_not, Bool.not_eq_true', Bool.not_eq_false', Bool.not_eq_true, Bool.not_eq_false, beq_iff_eq, bne_iff_ne, beq_eq_false_iff_ne, bne_eq_false_iff_eq, ne_eq, Decidable.not_not] at *; first | omega | contradiction | (simp_all; done) | (simp_all; omega))
        all_goals refine ⟨[], ?_⟩
        repeat (any_goals (first | exact True.intro | exact rfl | with_reducible_and_instances rfl | exact (by kernel_rfl) | refine And.intro ?_ ?_))
        all_goals conv => whnf
        unfold bestH
        rw [List.take_length]
def agreeRef (gs : List (Int × Int)) : Bool := decide (0 < gs.length) && decide ((bestR gs).2 = gs.length)
theorem refAgree_sat (gs : List (Int × Int)) (hn : gs.length ≤ 1000000000) : Sat Try.prog 33 [.d (.sl 2 (gs.map gR))] [] (bA (agreeRef gs)) [] := by
  have hm : (gs.map gR).length = gs.length := List.length_map _
  have be := best_sat gs hn
  refine sat_of_vc (T := tiOf Try.prog) (E := E0) Try.func33 rfl rfl hE0 hm0 rfl ?_
  conv => whnf
  repeat (any_goals (first
    | exact True.intro
    | (refine Or.inl ?_; conv => whnf)
    | (refine And.intro (fun _ => ?_) tf; conv => whnf)
    | (refine And.intro ft (fun _ => ?_); conv => whnf)
    | (refine And.intro (by kernel_rfl) ?_; conv => whnf)
    | (refine And.intro (by decide) ?_; conv => whnf)
    | (refine And.intro (fun _ => ?_) (fun h => absurd h (by decide)); conv => whnf)
    | (refine And.intro (fun h => absurd h (by decide)) (fun _ => ?_); conv => whnf)
    | (refine And.intro (fun _ => ?_) (fun _ => ?_) <;> conv => whnf)
    | (refine ⟨_, _, be.pu rfl rfl, ?_⟩; conv => whnf)))
  · have h1 := of_decide_eq_true ‹decide ((_ : Int) > 0) = true›
    have hr : agreeRef gs = (((bestR gs).2 : Int) == ((gs.map gR).length : Int)) := by
      unfold agreeRef
      rw [decide_eq_true (by omega), Bool.true_and, hm, Bool.eq_iff_iff, decide_eq_true_eq, beq_iff_eq]
      omega
    rw [hr]
    all_goals refine ⟨[], ?_⟩
    repeat (any_goals (first | exact True.intro | exact rfl | with_reducible_and_instances rfl | exact (by kernel_rfl) | refine And.intro ?_ ?_))
    all_goals conv => whnf
  · have h1 := of_decide_eq_false ‹decide ((_ : Int) > 0) = false›
    have hr : agreeRef gs = false := by
      unfold agreeRef
      rw [decide_eq_false (by omega), Bool.false_and]
    rw [hr]
    all_goals refine ⟨[], ?_⟩
    repeat (any_goals (first | exact True.intro | exact rfl | with_reducible_and_instances rfl | exact (by kernel_rfl) | refine And.intro ?_ ?_))
    all_goals conv => whnf
end Go.Proofs.Ytefidbifgilekaa
/- The document's votes: plain laws. -/
namespace Go.Proofs.Ytefidbifgilekaa
set_option linter.unusedSimpArgs false
set_option linter.unusedVariables false
open Go.RowKit
theorem best_ge (gs : List (Int × Int)) : ∀ (l : List (Int × Int)) (s : Nat × Int), s.1 ≤ (l.foldl (bstep gs) s).1 ∧ ∀ g ∈ l, votesN g.1 gs ≤ (l.foldl (bstep gs) s).1
  | [], s => ⟨Nat.le_refl _, fun g hg => by simp at hg⟩
  | x :: l, s => by
    obtain ⟨h1, h2⟩ := best_ge gs l (bstep gs s x)
    have h3 : s.1 ≤ (bstep gs s x).1 ∧ votesN x.1 gs ≤ (bstep gs s x).1 := by
      unfold bstep
      split
      · rename_i h; rcases h with h | ⟨h, _⟩ <;> simp <;> omega
      · rename_i h; simp only [not_or, not_and] at h; simp; omega
    rw [List.foldl_cons]
    refine ⟨by omega, fun g hg => ?_⟩
    rcases List.mem_cons.1 hg with e | e
    · subst e; omega
    · exact h2 g e
theorem best_src (gs : List (Int × Int)) : ∀ (l : List (Int × Int)) (s : Nat × Int), l.foldl (bstep gs) s = s ∨ ∃ g ∈ l, l.foldl (bstep gs) s = (votesN g.1 gs, g.1)
  | [], s => .inl rfl
  | x :: l, s => by
    rw [List.foldl_cons]
    rcases best_src gs l (bstep gs s x) with h | ⟨g, hg, h⟩
    · rw [h]
      unfold bstep
      split
      · exact .inr ⟨x, List.mem_cons_self .., rfl⟩
      · exact .inl rfl
    · exact .inr ⟨g, List.mem_cons_of_mem _ hg, h⟩
theorem meetL_in (x : Int) : ∀ (gs : List (Int × Int)) (a : Int × Int), a.1 ≤ x → x ≤ a.2 → (∀ g ∈ gs, g.1 ≤ x ∧ x ≤ g.2) → (meetL a gs).1 ≤ x ∧ x ≤ (meetL a gs).2
  | [], a, h1, h2, _ => ⟨h1, h2⟩
  | g :: gs, a, h1, h2, h => by
    have hg := h g (List.mem_cons_self ..)
    have := meetL_in x gs (max a.1 g.1, min a.2 g.2) (by simp; omega) (by simp; omega) fun y hy => h y (List.mem_cons_of_mem _ hy)
    exact this
theorem meetL_src : ∀ (gs : List (Int × Int)) (a : Int × Int), (meetL a gs).1 = a.1 ∨ ∃ g ∈ gs, (meetL a gs).1 = g.1
  | [], a => .inl rfl
  | g :: gs, a => by
    have e : meetL a (g :: gs) = meetL (max a.1 g.1, min a.2 g.2) gs := rfl
    rw [e]
    rcases meetL_src gs (max a.1 g.1, min a.2 g.2) with h | ⟨y, hy, h⟩
    · rw [h]
      have : max a.1 g.1 = a.1 ∨ max a.1 g.1 = g.1 := by omega
      rcases this with q | q
      · exact .inl q
      · exact .inr ⟨g, List.mem_cons_self .., q⟩
    · exact .inr ⟨y, List.mem_cons_of_mem _ hy, h⟩
theorem votes_all {x : Int} {gs : List (Int × Int)} : votesN x gs = gs.length ↔ ∀ g ∈ gs, g.1 ≤ x ∧ x ≤ g.2 := by
  unfold votesN
  rw [List.countP_eq_length]
  constructor
  · intro h g hg; exact of_decide_eq_true (h g hg)
  · intro h g hg; exact decide_eq_true (h g hg)
theorem agree_same (gs : List (Int × Int)) (hin : ∀ g ∈ gs, -9223372036854775808 ≤ g.1 ∧ g.1 ≤ 9223372036854775807) : agreeRef gs = agreeB gs := by
  unfold agreeRef agreeB
  rcases Nat.eq_zero_or_pos gs.length with h0 | h0
  · rw [decide_eq_false (by omega)]; rfl
  rw [decide_eq_true h0, Bool.true_and, Bool.true_and]
  obtain ⟨b1, b2⟩ := best_ge gs gs (0, 0)
  have b3 := best_src gs gs (0, 0)
  have hb : ∀ n : Nat, 0 < n → ((bestR gs).2 = n ↔ (bestS gs).1 = n) := fun n hn => by
    unfold bestR
    split
    · rename_i h; rw [h]
    · exact Iff.rfl
  refine decide_eq_decide.2 ((hb _ h0).trans ⟨fun h => ?_, fun h => ?_⟩)
  · rcases b3 with e | ⟨g, hg, e⟩
    · have : bestS gs = (0, 0) := e
      rw [this] at h
      exact absurd h.symm (by simp; omega)
    · have e : bestS gs = _ := e
      rw [e] at h
      have hv := votes_all.1 h
      have hi := meetL_in g.1 gs allG (hin g hg).1 (hin g hg).2 hv
      unfold meetR foldR
      rw [if_neg, if_pos (show okG (meetL allG gs) = true from decide_eq_true (Int.le_trans hi.1 hi.2))]
      rw [show gs.all okG = true from List.all_eq_true.2 fun y hy => decide_eq_true (Int.le_trans (hv y hy).1 (hv y hy).2)]
      simp
  · obtain ⟨h1, h2, h3⟩ := meetR_ok h
    have h2 : (meetL allG gs).1 ≤ (meetL allG gs).2 := of_decide_eq_true h2
    have hall : ∀ g ∈ gs, g.1 ≤ (meetL allG gs).1 ∧ (meetL allG gs).1 ≤ g.2 := fun g hg => by
      have := meetL_le allG gs hg
      omega
    obtain ⟨g, hg, e⟩ : ∃ g ∈ gs, (meetL allG gs).1 = g.1 := by
      rcases meetL_src gs allG with e | e
      · obtain ⟨g, hg⟩ := List.exists_mem_of_length_pos h0
        refine ⟨g, hg, ?_⟩
        have := hall g hg
        have := hin g hg
        have : allG.1 = -9223372036854775808 := rfl
        omega
      · exact e
    have hv : votesN g.1 gs = gs.length := votes_all.2 (by rw [← e]; exact hall)
    have h4 := b2 g hg
    have h5 : (bestS gs).1 ≤ gs.length := by
      rcases b3 with e | ⟨y, hy, e⟩
      · have : bestS gs = (0, 0) := e
        rw [this]; exact Nat.zero_le _
      · have : bestS gs = _ := e
        rw [this]; exact votes_le _ _
    have h4 : votesN g.1 gs ≤ (bestS gs).1 := h4
    omega
end Go.Proofs.Ytefidbifgilekaa
/- Sweep: how ends are compared, and put in order. -/
namespace Go.Proofs.Ytefidbifgilekaa
open Go.RowKit Go.Sort
set_option linter.unusedVariables false
set_option linter.unusedSimpArgs false
def encE (x : Int × Bool) : List Value := [.int .i64 x.1, .bool x.2]
def cmpE (x y : Int × Bool) : Int := if Lib.compareInt x.1 y.1 ≠ 0 ∨ x.2 = y.2 then Lib.compareInt x.1 y.1 else if y.2 = true then -1 else 1
theorem cmpInt_any (x y : Int) (w : World) : Calls Try.prog 56 #[.int .i64 x, .int .i64 y] w fun e w' => e = .returned (.int .i64 (Lib.compareInt x y)) ∧ w' = w := AnyG.cmp_Compare_int Try.cmpFn x y w
set_option maxRecDepth 100000 in
theorem compare_at : CmpAt Try.prog 58 encE cmpE := by
  rintro ⟨a, p⟩ ⟨b, q⟩ W
  obtain ⟨z, hz⟩ : ∃ z, cmpE (a, p) (b, q) = z := ⟨_, rfl⟩
  rw [hz]
  have HZ := hide hz
  have hcon := fun W' => cmpInt_any a b W'
  have hg : ∃ r, Lib.compareInt a b = r := ⟨_, rfl⟩
  obtain ⟨r, hr⟩ := hg
  rw [hr] at hcon
  have HR := hide hr
  have HC := hide hcon
  clear hz hr hcon
  simp only [encE]
  by_cases h0 : r = 0
  · have hne : (r != 0) = false := by simp [h0]
    have H0 := hide h0
    cases p <;> cases q
    all_goals
      clear h0
      go_enter Try.func58, Try.ntmps58
      go_wp2_with (go_at_call 56; refine (HC.out _).mono ?_; rintro e w' ⟨rfl, rfl⟩)
      go_ret
      refine ⟨?_, 0, _, by rw [alloc_eq_grow, alloc_eq_grow, grow_grow]; rfl⟩
      have e := HZ.out
      unfold cmpE at e
      rw [← e]
      simp [HR.out, H0.out]
  · have hne : (r != 0) = true := by simp [h0]
    have H0 := hide h0
    clear h0
    go_enter Try.func58, Try.ntmps58
    go_wp2_with (go_at_call 56; refine (HC.out _).mono ?_; rintro e w' ⟨rfl, rfl⟩)
    go_ret
    refine ⟨?_, 0, _, by rw [alloc_eq_grow, alloc_eq_grow, grow_grow]; rfl⟩
    have e := HZ.out
    unfold cmpE at e
    rw [← e]
    simp [HR.out, H0.out]
/-- One end is ahead of another. -/
def ltE (x y : Int × Bool) : Prop := x.1 < y.1 ∨ (x.1 = y.1 ∧ x.2 = false ∧ y.2 = true)
theorem ltOf_E (x y : Int × Bool) : ltOf cmpE x y = true ↔ ltE x y := by
  unfold ltOf cmpE ltE Lib.compareInt
  rw [decide_eq_true_eq]
  by_cases h1 : x.1 < y.1
  · simp [h1]
  · by_cases h2 : x.1 > y.1
    · simp [h1, h2]; omega
    · have h3 : x.1 = y.1 := by omega
      simp only [if_neg h1, if_neg h2]
      cases x.2 <;> cases y.2 <;> simp [h1, h3]
theorem ltOf_F (x y : Int × Bool) : ltOf cmpE x y = false ↔ ¬ ltE x y := by
  rw [← ltOf_E, Bool.not_eq_true]
theorem swoE : SWO (ltOf cmpE) := by
  refine ⟨fun x => ?_, fun x y z => ?_, fun x y z => ?_⟩
  · rw [ltOf_F]; unfold ltE; rintro (h | ⟨_, h, h'⟩)
    · omega
    · rw [h] at h'; cases h'
  · rw [ltOf_E, ltOf_E, ltOf_E]; unfold ltE
    rintro (h | ⟨h1, h2, h3⟩) (g | ⟨g1, g2, g3⟩)
    · left; omega
    · left; omega
    · left; omega
    · rw [h3] at g2; cases g2
  · rw [ltOf_F, ltOf_F, ltOf_F]; unfold ltE
    intro h g
    rintro (k | ⟨k1, k2, k3⟩)
    · by_cases q : x.1 < y.1
      · exact h (.inl q)
      · exact g (.inl (by omega))
    · by_cases q : x.1 < y.1
      · exact h (.inl q)
      by_cases q' : y.1 < z.1
      · exact g (.inl q')
      cases hy : y.2
      · exact g (.inr ⟨by omega, hy, k3⟩)
      · exact h (.inr ⟨by omega, k2, hy⟩)
theorem totE (x y : Int × Bool) (h : ltOf cmpE x y = false) (g : ltOf cmpE y x = false) : x = y := by
  rw [ltOf_F] at h g
  unfold ltE at h g
  obtain ⟨a, p⟩ := x
  obtain ⟨b, q⟩ := y
  simp only [not_or] at h g
  have : a = b := by omega
  subst this
  cases p <;> cases q <;> simp at h g ⊢
abbrev eR (x : Int × Bool) : List D := [iD x.1, .v (.bool x.2)]
abbrev eA (x : Int × Bool) : AV := .d (.agg (eR x))
theorem eR_enc : (encD encE) = eR := rfl
theorem sortE_call (l : List (Int × Bool)) (hsz : l.length < 4611686018427387904) {i n : Nat} {Lh : List AObj} (hi : Lh[i]? = some (.sl 2 (l.map eR))) :
    CallOK Try.prog 57 [.own i, .fn (.func 58) [] []] Lh n ⟨[i], [(i, .sl 2 ((sorted cmpE l).map eR))], []⟩ (.tup []) :=
  sort_call Try.sortFn Try.isAgg103 Try.sizeOf103 encE (fun _ => rfl) (fun x v hv => by simp [encE] at hv; rcases hv with rfl | rfl <;> rfl) cmpE swoE totE (enters_of Try.func58 (by kernel_rfl) rfl) compare_at l hsz hi
end Go.Proofs.Ytefidbifgilekaa
/- Sweep: the ends in order; turns. -/
namespace Go.Proofs.Ytefidbifgilekaa
set_option linter.unusedSimpArgs false
set_option linter.unusedVariables false
open Go.RowKit Go.Sort
set_option maxRecDepth 100000
def endsL (gs : List (Int × Int)) : List (Int × Bool) := (gs.filter okG).flatMap fun g => [(g.1, false), (g.2, true)]
theorem ends_succ {gs : List (Int × Int)} {k : Nat} {g : Int × Int} (hx : gs[k]? = some g) : endsL (gs.take (k + 1)) = endsL (gs.take k) ++ if okG g = true then [(g.1, false), (g.2, true)] else [] := by
  unfold endsL
  rw [List.take_add_one, hx, List.filter_append, List.flatMap_append]
  by_cases h : okG g = true <;> simp [h]
theorem ends_len (gs : List (Int × Int)) : (endsL gs).length ≤ 2 * gs.length := by
  unfold endsL
  have h := List.length_filter_le okG gs
  generalize gs.filter okG = l at h ⊢
  have : (l.flatMap fun g => [(g.1, false), (g.2, true)]).length = 2 * l.length := by
    clear h
    induction l with
    | nil => rfl
    | cons x l ih => rw [List.flatMap_cons, List.length_append, ih, List.length_cons]; simp; omega
  omega
theorem mk0z {P : Program} {t ty : TypeId} {a1 a2 : Operand} {L : List AObj} {n : Nat} {kd kd' : IntKind} {z : Int} (c s b : Nat) (h : slB P t s b = true) (hz : z = (c : Int)) (hb : b * c ≤ 281474976710656) (hm : c ≤ maxLen) : Does P (.makeSlice t a1 a2) ty L n [.d (.v (.int kd 0)), .d (.v (.int kd' z))] ⟨[], [], [.sl s []]⟩ (.own n) := by
  subst hz
  exact mk0 s b h hb hm
theorem turns_sat (gs : List (Int × Int)) (hn : gs.length ≤ 1000) : Sat Try.prog 46 [.d (.sl 2 (gs.map gR))] [] (.fn (.func 59) [] [.ptr 1 0]) [.sl 2 ((sorted cmpE (endsL gs)).map eR), .cells [.own 0]] := by
  have hm : (gs.map gR).length = gs.length := List.length_map _
  refine sat_of_vc (T := tiOf Try.prog) (E := E0) Try.func46 rfl rfl hE0 hm0 rfl ?_
  conv => whnf
  repeat (any_goals (first
    | exact True.intro
    | (refine Or.inl ?_; conv => whnf)
    | (refine And.intro (fun _ => ?_) tf; conv => whnf)
    | (refine And.intro ft (fun _ => ?_); conv => whnf)
    | (refine And.intro (by kernel_rfl) ?_; conv => whnf)
    | (refine And.intro (by decide) ?_; conv => whnf)
    | (refine And.intro (fun _ => ?_) (fun h => absurd h (by decide)); conv => whnf)
    | (refine And.intro (fun h => absurd h (by decide)) (fun _ => ?_); conv => whnf)
    | (refine And.intro (fun _ => ?_) (fun _ => ?_) <;> conv => whnf)
    | (refine ⟨_, _, mk0z (2 * gs.length) 2 16 (by kernel_rfl) (by rw [wi (by omega) (by omega)]; omega) (by omega) (by unfold maxLen; omega), ?_⟩; conv => whnf)))
  refine ⟨Nat, fun k => k ≤ gs.length, fun k => ([(12, iA k), (11, iA gs.length), (10, .d (.sl 2 (gs.map gR))), (3, .ptr 1 0)], [.sl 2 ((endsL (gs.take k)).map eR), .cells [.own 0]]), fun k => gs.length - k, ⟨0, Nat.zero_le _, ?_⟩, ?_⟩
  · all_goals refine ⟨[], ?_⟩
    repeat (any_goals (first | exact True.intro | exact rfl | with_reducible_and_instances rfl | exact (by kernel_rfl) | refine And.intro ?_ ?_))
    all_goals conv => whnf
    rw [hm]
  intro k hk
  conv => whnf
  have hel := ends_len (gs.take k)
  rw [List.length_take] at hel
  by_cases hlt : k < gs.length
  · have hx : gs[k]? = some gs[k] := List.getElem?_eq_getElem hlt
    generalize gs[k] = g at hx
    repeat (any_goals (first
      | exact True.intro
      | (refine Or.inl ?_; conv => whnf)
      | (refine And.intro (fun _ => ?_) tf; conv => whnf)
      | (refine And.intro ft (fun _ => ?_); conv => whnf)
      | (refine And.intro (by kernel_rfl) ?_; conv => whnf)
      | (refine And.intro (by decide) ?_; conv => whnf)
      | (refine And.intro (fun _ => ?_) (fun h => absurd h (by decide)); conv => whnf)
      | (refine And.intro (fun h => absurd h (by decide)) (fun _ => ?_); conv => whnf)
      | (refine ⟨k, _, rfl, map_get hx, ?_⟩; conv => whnf)
      | (refine And.intro (fun _ => ?_) (fun _ => ?_) <;> conv => whnf)
      | (refine ⟨_, _, (gapRight_sat g).pu rfl rfl, ?_⟩; conv => whnf)
      | (refine ⟨_, _, ap 2 16 (by kernel_rfl) rfl rfl (by simp; omega), ?_⟩; conv => whnf)))
    all_goals try (exfalso; simp only [decide_eq_true_eq, decide_eq_false_iff_not, Bool.not_eq_true', Bool.not_eq_false', Bool.not_eq_true, Bool.not_eq_false, beq_iff_eq, bne_iff_ne, beq_eq_false_iff_ne, bne_eq_false_iff_eq, ne_eq, Decidable.not_not] at *; first | omega | contradiction | (simp_all; done) | (simp_all; omega))
    · have hg : okG g = true := (by (try simp only [decide_eq_true_eq, decide_eq_false_iff_not, Bool.not_eq_true', Bool.not_eq_false', Bool.not_eq_true, Bool.not_eq_false, beq_iff_eq, bne_iff_ne, beq_eq_false_iff_ne, bne_eq_false_iff_eq, ne_eq, Decidable.not_not, Int.natCast_eq_zero] at *); first | omega | assumption | (simp_all; done) | (simp_all; omega))
      refine ⟨k + 1, hlt, show gs.length - (k + 1) < gs.length - k by omega, ?_⟩
      all_goals refine ⟨[(0, 4)], ?_⟩
      repeat (any_goals (first | exact True.intro | exact rfl | with_reducible_and_instances rfl | exact (by kernel_rfl) | refine And.intro ?_ ?_))
      all_goals conv => whnf
      · exact wk1 (by omega)
      · rw [ends_succ hx, if_pos hg, List.map_append]; rfl
    · have hg : ¬ okG g = true := (by (try simp only [decide_eq_true_eq, decide_eq_false_iff_not, Bool.not_eq_true', Bool.not_eq_false', Bool.not_eq_true, Bool.not_eq_false, beq_iff_eq, bne_iff_ne, beq_eq_false_iff_ne, bne_eq_false_iff_eq, ne_eq, Decidable.not_not, Int.natCast_eq_zero] at *); first | omega | assumption | (simp_all; done) | (simp_all; omega))
      refine ⟨k + 1, hlt, show gs.length - (k + 1) < gs.length - k by omega, ?_⟩
      all_goals refine ⟨[], ?_⟩
      repeat (any_goals (first | exact True.intro | exact rfl | with_reducible_and_instances rfl | exact (by kernel_rfl) | refine And.intro ?_ ?_))
      all_goals conv => whnf
      · exact wk1 (by omega)
      · rw [ends_succ hx, if_neg hg, List.append_nil]
  · have hke : k = gs.length := by omega
    subst hke
    rw [List.take_length]
    rw [List.take_length] at hel
    repeat (any_goals (first
      | exact True.intro
      | (refine Or.inl ?_; conv => whnf)
      | (refine And.intro (fun _ => ?_) tf; conv => whnf)
      | (refine And.intro ft (fun _ => ?_); conv => whnf)
      | (refine And.intro (by kernel_rfl) ?_; conv => whnf)
      | (refine And.intro (by decide) ?_; conv => whnf)
      | (refine And.intro (fun _ => ?_) (fun h => absurd h (by decide)); conv => whnf)
      | (refine And.intro (fun h => absurd h (by decide)) (fun _ => ?_); conv => whnf)
      | (refine And.intro (fun _ => ?_) (fun _ => ?_) <;> conv => whnf)
      | (refine ⟨_, _, sortE_call _ (by omega) rfl, ?_⟩; conv => whnf)))
    all_goals try (exfalso; simp only [decide_eq_true_eq, decide_eq_false_iff_not, Bool.not_eq_true', Bool.not_eq_false', Bool.not_eq_true, Bool.not_eq_false, beq_iff_eq, bne_iff_ne, beq_eq_false_iff_ne, bne_eq_false_iff_eq, ne_eq, Decidable.not_not] at *; first | omega | contradiction | (simp_all; done) | (simp_all; omega))
    all_goals refine ⟨[], ?_⟩
    repeat (any_goals (first | exact True.intro | exact rfl | with_reducible_and_instances rfl | exact (by kernel_rfl) | refine And.intro ?_ ?_))
    all_goals conv => whnf
end Go.Proofs.Ytefidbifgilekaa
/- Sweep: the iterator of the ends with their votes. -/
namespace Go.Proofs.Ytefidbifgilekaa
open Go.RowKit Go.Sort
set_option linter.unusedVariables false
set_option linter.unusedSimpArgs false
def lowsN (l : List (Int × Bool)) : Nat := l.countP fun e => !e.2
def upsN (l : List (Int × Bool)) : Nat := l.countP fun e => e.2
def votesAt (S : List (Int × Bool)) (k : Nat) : Int := (lowsN (S.take (k + 1)) : Int) - (upsN (S.take k) : Int)
def turnXs (S : List (Int × Bool)) : List (List AV) := (List.range S.length).map fun k => [eA (S[k]?.getD (0, false)), iA (votesAt S k)]
theorem turnXs_len (S : List (Int × Bool)) : (turnXs S).length = S.length := by simp [turnXs]
theorem turnXs_get {S : List (Int × Bool)} {k : Nat} {e : Int × Bool} (h : S[k]? = some e) : (turnXs S)[k]? = some [eA e, iA (votesAt S k)] := by
  have hk := (List.getElem?_eq_some_iff.1 h).1
  unfold turnXs
  rw [List.getElem?_map, List.getElem?_range hk, Option.map_some, h]; rfl
theorem lows_succ {S : List (Int × Bool)} {k : Nat} {e : Int × Bool} (h : S[k]? = some e) : lowsN (S.take (k + 1)) = lowsN (S.take k) + if e.2 = true then 0 else 1 := by
  unfold lowsN
  rw [count_take_succ h]
  cases e.2 <;> simp
theorem ups_succ {S : List (Int × Bool)} {k : Nat} {e : Int × Bool} (h : S[k]? = some e) : upsN (S.take (k + 1)) = upsN (S.take k) + if e.2 = true then 1 else 0 := by
  unfold upsN
  rw [count_take_succ h]
theorem lows_le (S : List (Int × Bool)) (k : Nat) : lowsN (S.take k) ≤ S.length := Nat.le_trans List.countP_le_length (by rw [List.length_take]; omega)
theorem ups_le (S : List (Int × Bool)) (k : Nat) : upsN (S.take k) ≤ S.length := Nat.le_trans List.countP_le_length (by rw [List.length_take]; omega)
/-- What the iterator sees: its cell holds a slice of these ends. -/
def Sees (S : List (Int × Bool)) (b : Nat) (A : Option Addr) (c : Nat) (w : World) : Prop :=
  w.cell? ⟨b, 0, none⟩ = some (.slice A S.length c) ∧ ∀ (k : Nat) e, S[k]? = some e → ∃ g off, A = some ⟨g, off, none⟩ ∧ w.cell? ⟨g, off + k * 2, none⟩ = some (.int .i64 e.1) ∧ w.cell? ⟨g, off + k * 2 + 1, none⟩ = some (.bool e.2)
theorem rds_at {w : World} {F : Nat → Prop} : ∀ {S : List (Int × Bool)} {vs : List Value}, RDs w F (S.map eR).flatten vs → ∀ (k : Nat) e, S[k]? = some e → vs[k * 2]? = some (.int .i64 e.1) ∧ vs[k * 2 + 1]? = some (.bool e.2)
  | [], _, _, k, e, h => by simp at h
  | x :: S, _, .cons (.v _) _ (.cons (.v _) _ hr), 0, e, h => by
    simp at h; subst h; exact ⟨rfl, rfl⟩
  | x :: S, _, .cons (.v _) _ (.cons (.v _) _ hr), k + 1, e, h => by
    have := rds_at hr k e (by simpa using h)
    rw [show (k + 1) * 2 = k * 2 + 2 by omega]
    exact this
theorem sees_of {S : List (Int × Bool)} {Lc : List AObj} {i j : Nat} (hi : Lc[i]? = some (.cells [.own j])) (hj : Lc[j]? = some (.sl 2 (S.map eR))) {us vs : List Value} {ρ0 : Nat → Option Value} {w : World}
    (h : ∃ F ρ H, Env F ρ H w ∧ (∀ (i : Nat) o, Lc[i]? = some o → o.live = true → H i = some o ∧ ∃ h, ρ0 i = some h ∧ ρ i = some h) ∧ RAs w F ρ [] us ∧ RAs w F ρ [.ptr i 0] vs) :
    us = [] ∧ ∃ b A c, vs = [.pointer (some ⟨b, 0, none⟩)] ∧ ρ0 j = some (.slice A S.length c) ∧ Sees S b A c w := by
  obtain ⟨F, ρ, H, E, ho, h1, h2⟩ := h
  cases h1
  refine ⟨rfl, ?_⟩
  obtain ⟨v, rfl, hv⟩ := h2.one_out
  cases hv with | @ptr _ _ b hρ =>
  obtain ⟨hHi, hh, e1, e2⟩ := ho i _ hi rfl
  obtain ⟨h', e3, ⟨b', t, vs, rfl, hB, hR, _⟩, _⟩ := E.rep i _ hHi rfl
  rw [hρ] at e3; injection e3 with e3; injection e3 with e3; injection e3 with e3; injection e3 with e3
  subst e3
  obtain ⟨u, e4, hu⟩ := hR.one_out
  cases hu with | @own _ A n c hρj =>
  obtain ⟨hHj, hh2, e5, e6⟩ := ho j _ hj rfl
  obtain ⟨h'', e7, ⟨vs2, hOw, hRD, _⟩, _⟩ := E.rep j _ hHj rfl
  rw [hρj] at e7 e6
  injection e7 with e7; injection e6 with e6
  subst e7 e6
  have hn : n = S.length := by
    rcases hOw.2 with ⟨q, q'⟩ | ⟨a, q, _, q'⟩ | ⟨g, off, cap, q, _⟩ <;> injection q with _ q _ <;> simp_all
  subst hn
  refine ⟨b, A, c, rfl, e5, ?_, fun k e hk => ?_⟩
  · have := hB.cell 0
    rw [this, ← Array.getElem?_toList, e4]; rfl
  · have hlt := (List.getElem?_eq_some_iff.1 hk).1
    have hl := hOw.1
    rw [List.length_map] at hl
    obtain ⟨r1, r2⟩ := rds_at hRD k e hk
    rcases hOw.2 with ⟨q, q'⟩ | ⟨a, q, _, q'⟩ | ⟨g, off, cap, q, _, _, _, _, _, hread⟩
    · rw [List.length_map] at q'; omega
    · rw [List.length_map] at q'; omega
    · injection q with q1 q2 q3
      obtain ⟨g1, s1⟩ := List.getElem?_eq_some_iff.1 r1
      obtain ⟨g2, s2⟩ := List.getElem?_eq_some_iff.1 r2
      refine ⟨g, off, q1, ?_, ?_⟩
      · rw [hread _ g1, s1]
      · have := hread _ g2
        rw [s2] at this
        exact this
attribute [local go_sem] Oper.semAt_some
set_option maxHeartbeats 1000000 in
set_option maxRecDepth 100000 in
theorem turnsIt {S : List (Int × Bool)} (hS : S.length ≤ 1000000) {Lc : List AObj} {i j : Nat} (hi : Lc[i]? = some (.cells [.own j])) (hj : Lc[j]? = some (.sl 2 (S.map eR))) :
    IterA Try.prog 59 [] [.ptr i 0] Lc (turnXs S) := by
  intro us vs l ρ0
  refine ⟨(List.range S.length).map fun k => [.agg (encE (S[k]?.getD (0, false))).toArray, .int .i64 (votesAt S k)], by simp [turnXs], fun k x vals hx hv w F ρ => ?_, ?_⟩
  · have hk : k < S.length := by have := (List.getElem?_eq_some_iff.1 hx).1; rwa [turnXs_len] at this
    rw [turnXs_get (List.getElem?_eq_getElem hk)] at hx
    rw [List.getElem?_map, List.getElem?_range hk, Option.map_some, List.getElem?_eq_getElem hk] at hv
    injection hx with hx; injection hv with hv
    subst hx hv
    exact .cons (.d (.agg (.cons (.v _) rfl (.cons (.v _) rfl .nil)))) (.cons (.d (.v _)) .nil)
  intro J Jx hJ hN hNx hY O w h0
  obtain ⟨rfl, b, A, c, rfl, hρ, hs0⟩ := sees_of hi hj (hJ 0 O w h0).1
  have sees : ∀ k O w, J k O w → Sees S b A c w := fun k O w h => by
    obtain ⟨_, b', A', c', e1, e2, h'⟩ := sees_of hi hj (hJ k O w h).1
    injection e1 with e1; injection e1 with e1; injection e1 with e1; injection e1 with e1
    rw [hρ] at e2
    injection e2 with e2; injection e2 with e2 _ e3
    subst e1 e2 e3
    exact h'
  have hlen : ((List.range S.length).map fun k => [Value.agg (encE (S[k]?.getD (0, false))).toArray, .int .i64 (votesAt S k)]).length = S.length := by simp
  rw [hlen]
  have hxs : ∀ (k : Nat) e, S[k]? = some e → ((List.range S.length).map fun k => [Value.agg (encE (S[k]?.getD (0, false))).toArray, .int .i64 (votesAt S k)])[k]? = some [.agg #[.int .i64 e.1, .bool e.2], .int .i64 (votesAt S k)] := fun k e h => by
    have hk := (List.getElem?_eq_some_iff.1 h).1
    rw [List.getElem?_map, List.getElem?_range hk, Option.map_some, h]; rfl
  generalize ((List.range S.length).map fun k => [Value.agg (encE (S[k]?.getD (0, false))).toArray, .int .i64 (votesAt S k)]) = xss at hY hxs
  have HJ := hide hJ
  have HN := hide hN
  have HS := hide sees
  have HX := hide hxs
  have c0 := hs0.1
  clear hJ hN sees hs0 hxs hρ hlen hNx
  refine (callsIn_wide (n := 1)).1 (callsIn_of_wp Try.func59 rfl trivial ?_ rfl)
  simp only [Try.ntmps59, List.size_toArray, List.length_cons, List.length_nil, Nat.reduceAdd, Nat.reduceSub, Array.replicate_succ, Array.replicate_zero, List.push_toArray, List.append_toArray, List.nil_append, List.cons_append]
  gi_wp2
  gi_loopw [3, 5, 8] (fun v _ i wr => ∃ (k : Nat) (O : Nat → Prop), k ≤ S.length ∧ i = .int .i64 k ∧ v = .int .i64 ((lowsN (S.take k) : Int) - (upsN (S.take k) : Int)) ∧ J k O wr) (fun _ _ i _ => S.length - (intOf i).toNat)
  case atStart => exact ⟨0, O, by omega, rfl, rfl, h0⟩
  case round =>
    obtain ⟨k, O1, hk, rfl, rfl, hJk⟩ := hrel
    by_cases hk1 : k < S.length
    · obtain ⟨⟨x, u⟩, he⟩ : ∃ e, S[k]? = some e := ⟨S[k], List.getElem?_eq_getElem hk1⟩
      obtain ⟨g, off, rfl, c1, c2⟩ := (HS.out k O1 wr hJk).2 k _ he
      have hO := (HJ.out k O1 wr hJk).2
      have hJ1 := HN.out k O1 wr (wr.alloc (.cells #[.int .i64 x, .bool u] 103)) hJk ⟨rfl, rfl, rfl, by simp, fun b hb => Below.heap_alloc _ _ _ (hO b hb)⟩
      obtain ⟨fn, tmps, assign, body, hy, hR⟩ := hY k O1 _ _ (HX.out k _ he) hJ1
      have l1 := lows_succ he
      have u1 := ups_succ he
      have l2 := lows_le S k
      have u2 := ups_le S k
      have HB := hide (Blk.new wr 103 #[.int .i64 x, .bool u])
      have HO := hide hO
      clear hJ1 hJk hO h0
      unfold votesAt at hy
      cases u
      · rw [if_neg (by simp)] at l1 u1
        rw [l1, show ((lowsN (S.take k) + 1 : Nat) : Int) - (upsN (S.take k) : Int) = (lowsN (S.take k) : Int) - (upsN (S.take k) : Int) + 1 by omega] at hy
        gi_wp2
        refine hR.mono ?_
        rintro e W3 ⟨O', hfar, hO', ⟨rfl, hJ3⟩ | ⟨rfl, hJx3⟩⟩
        · have hB3 : Blk W3 wr.heap.size 103 #[.int .i64 x, .bool false] := (hfar.2.2.2.2 _ HB.out.lt (fun q => by have := HO.out _ q; omega)).trans HB.out
          have d1 := hB3.cell 1
          simp only [List.getElem?_toArray, List.getElem?_cons_zero, List.getElem?_cons_succ] at d1
          clear hfar hR hy
          gi_wp2
          go_roundw
          case rel => exact ⟨k + 1, O', by omega, by go_num, by rw [l1, u1]; congr 1; omega, hJ3⟩
          case measure => simp [intOf]; omega
        · clear hR hy
          gi_wp2
          refine bodyPost_ret (results_none rfl _ _ _) rfl ?_
          exact ⟨⟨_, rfl⟩, _, .inr hJx3⟩
      · rw [if_pos rfl] at l1 u1
        rw [l1, Nat.add_zero] at hy
        gi_wp2
        refine hR.mono ?_
        rintro e W3 ⟨O', hfar, hO', ⟨rfl, hJ3⟩ | ⟨rfl, hJx3⟩⟩
        · have hB3 : Blk W3 wr.heap.size 103 #[.int .i64 x, .bool true] := (hfar.2.2.2.2 _ HB.out.lt (fun q => by have := HO.out _ q; omega)).trans HB.out
          have d1 := hB3.cell 1
          simp only [List.getElem?_toArray, List.getElem?_cons_zero, List.getElem?_cons_succ] at d1
          clear hfar hR hy
          gi_wp2
          go_roundw
          case rel => exact ⟨k + 1, O', by omega, by go_num, by rw [l1, u1]; congr 1; omega, hJ3⟩
          case measure => simp [intOf]; omega
        · clear hR hy
          gi_wp2
          refine bodyPost_ret (results_none rfl _ _ _) rfl ?_
          exact ⟨⟨_, rfl⟩, _, .inr hJx3⟩
    · have hke : k = S.length := by omega
      subst hke
      gi_wp2
      go_end0
      exact ⟨⟨_, rfl⟩, _, .inl hJk⟩
end Go.Proofs.Ytefidbifgilekaa
/- Sweep: Votes, Best, Without. -/
namespace Go.Proofs.Ytefidbifgilekaa
set_option linter.unusedSimpArgs false
set_option linter.unusedVariables false
open Go.RowKit Go.Sort
set_option maxRecDepth 100000
theorem gapHas_sat (g : Int × Int) (x : Int) : Sat Try.prog 35 [gA g, iA x] [] (bA (hasG x g)) [] := by
  refine .of_calls (by repeat constructor) (by repeat constructor) fun w => ?_
  exact gapHas_any g.1 g.2 x w
theorem votesP_sat (x : Int) (gs : List (Int × Int)) (hn : gs.length ≤ 1000000000) : Sat Try.prog 30 [iA x, .d (.sl 2 (gs.map gR))] [] (iA (votesN x gs)) [] := by
  have hm : (gs.map gR).length = gs.length := List.length_map _
  refine sat_of_vc (T := tiOf Try.prog) (E := E0) Try.func30 rfl rfl hE0 hm0 rfl ?_
  conv => whnf
  repeat (any_goals (first
    | exact True.intro
    | (refine Or.inl ?_; conv => whnf)
    | (refine And.intro (fun _ => ?_) tf; conv => whnf)
    | (refine And.intro ft (fun _ => ?_); conv => whnf)
    | (refine And.intro (by kernel_rfl) ?_; conv => whnf)
    | (refine And.intro (by decide) ?_; conv => whnf)
    | (refine And.intro (fun _ => ?_) (fun h => absurd h (by decide)); conv => whnf)
    | (refine And.intro (fun h => absurd h (by decide)) (fun _ => ?_); conv => whnf)
    | (refine And.intro (fun _ => ?_) (fun _ => ?_) <;> conv => whnf)))
  refine ⟨Nat, fun k => k ≤ gs.length, fun k => ([(10, iA k), (9, iA gs.length), (8, .d (.sl 2 (gs.map gR))), (5, iA (votesN x (gs.take k))), (0, iA x)], []), fun k => gs.length - k, ⟨0, Nat.zero_le _, ?_⟩, ?_⟩
  · all_goals refine ⟨[], ?_⟩
    repeat (any_goals (first | exact True.intro | exact rfl | with_reducible_and_instances rfl | exact (by kernel_rfl) | refine And.intro ?_ ?_))
    all_goals conv => whnf
    rw [hm]
  intro k hk
  conv => whnf
  have hv : votesN x (gs.take k) ≤ gs.length := Nat.le_trans List.countP_le_length (by rw [List.length_take]; omega)
  by_cases hlt : k < gs.length
  · have hx : gs[k]? = some gs[k] := List.getElem?_eq_getElem hlt
    generalize gs[k] = g at hx
    have hst : votesN x (gs.take (k + 1)) = votesN x (gs.take k) + if hasG x g = true then 1 else 0 := count_take_succ hx
    repeat (any_goals (first
      | exact True.intro
      | (refine Or.inl ?_; conv => whnf)
      | (refine And.intro (fun _ => ?_) tf; conv => whnf)
      | (refine And.intro ft (fun _ => ?_); conv => whnf)
      | (refine And.intro (by kernel_rfl) ?_; conv => whnf)
      | (refine And.intro (by decide) ?_; conv => whnf)
      | (refine And.intro (fun _ => ?_) (fun h => absurd h (by decide)); conv => whnf)
      | (refine And.intro (fun h => absurd h (by decide)) (fun _ => ?_); conv => whnf)
      | (refine ⟨k, _, rfl, map_get hx, ?_⟩; conv => whnf)
      | (refine And.intro (fun _ => ?_) (fun _ => ?_) <;> conv => whnf)
      | (refine ⟨_, _, (gapHas_sat g x).pu rfl rfl, ?_⟩; conv => whnf)))
    all_goals try (exfalso; simp only [decide_eq_true_eq, decide_eq_false_iff_not, Bool.not_eq_true', Bool.not_eq_false', Bool.not_eq_true, Bool.not_eq_false, beq_iff_eq, bne_iff_ne, beq_eq_false_iff_ne, bne_eq_false_iff_eq, ne_eq, Decidable.not_not] at *; first | omega | contradiction | (simp_all; done) | (simp_all; omega))
    · have h : hasG x g = true := (by (try simp only [decide_eq_true_eq, decide_eq_false_iff_not, Bool.not_eq_true', Bool.not_eq_false', Bool.not_eq_true, Bool.not_eq_false, beq_iff_eq, bne_iff_ne, beq_eq_false_iff_ne, bne_eq_false_iff_eq, ne_eq, Decidable.not_not, Int.natCast_eq_zero] at *); first | omega | assumption | (simp_all; done) | (simp_all; omega))
      rw [if_pos h] at hst
      refine ⟨k + 1, hlt, show gs.length - (k + 1) < gs.length - k by omega, ?_⟩
      all_goals refine ⟨[], ?_⟩
      repeat (any_goals (first | exact True.intro | exact rfl | with_reducible_and_instances rfl | exact (by kernel_rfl) | refine And.intro ?_ ?_))
      all_goals conv => whnf
      · exact wk1 (by omega)
      · rw [hst]
        exact wk1 (by omega)
    · have h : ¬ hasG x g = true := (by (try simp only [decide_eq_true_eq, decide_eq_false_iff_not, Bool.not_eq_true', Bool.not_eq_false', Bool.not_eq_true, Bool.not_eq_false, beq_iff_eq, bne_iff_ne, beq_eq_false_iff_ne, bne_eq_false_iff_eq, ne_eq, Decidable.not_not, Int.natCast_eq_zero] at *); first | omega | assumption | (simp_all; done) | (simp_all; omega))
      rw [if_neg h] at hst
      refine ⟨k + 1, hlt, show gs.length - (k + 1) < gs.length - k by omega, ?_⟩
      all_goals refine ⟨[], ?_⟩
      repeat (any_goals (first | exact True.intro | exact rfl | with_reducible_and_instances rfl | exact (by kernel_rfl) | refine And.intro ?_ ?_))
      all_goals conv => whnf
      · exact wk1 (by omega)
      · rw [hst]; rfl
  · have hke : k = gs.length := by omega
    subst hke
    repeat (any_goals (first
      | exact True.intro
      | (refine Or.inl ?_; conv => whnf)
      | (refine And.intro (fun _ => ?_) tf; conv => whnf)
      | (refine And.intro ft (fun _ => ?_); conv => whnf)
      | (refine And.intro (by kernel_rfl) ?_; conv => whnf)
      | (refine And.intro (by decide) ?_; conv => whnf)
      | (refine And.intro (fun _ => ?_) (fun h => absurd h (by decide)); conv => whnf)
      | (refine And.intro (fun h => absurd h (by decide)) (fun _ => ?_); conv => whnf)
      | (refine And.intro (fun _ => ?_) (fun _ => ?_) <;> conv => whnf)))
    all_goals try (exfalso; simp only [decide_eq_true_eq, decide_eq_false_iff_not, Bool.not_eq_true', Bool.not_eq_false', Bool.not_eq_true, Bool.not_eq_false, beq_iff_eq, bne_iff_ne, beq_eq_false_iff_ne, bne_eq_false_iff_eq, ne_eq, Decidable.not_not] at *; first | omega | contradiction | (simp_all; done) | (simp_all; omega))
    all_goals refine ⟨[], ?_⟩
    repeat (any_goals (first | exact True.intro | exact rfl | with_reducible_and_instances rfl | exact (by kernel_rfl) | refine And.intro ?_ ?_))
    all_goals conv => whnf
    rw [List.take_length]
def bestF (S : List (Int × Bool)) : Nat → Int × Int
  | 0 => (0, 0)
  | k + 1 => if (bestF S k).2 < votesAt S k then ((S[k]?.getD (0, false)).1, votesAt S k) else bestF S k
theorem turnXs_two (S : List (Int × Bool)) (x : List AV) (h : x ∈ turnXs S) : x.length = 2 := by
  unfold turnXs at h
  obtain ⟨k, _, rfl⟩ := List.mem_map.1 h
  rfl
theorem turnXs_out {S : List (Int × Bool)} {k : Nat} {x : List AV} (h : (turnXs S)[k]? = some x) : ∃ e, S[k]? = some e ∧ x = [eA e, iA (votesAt S k)] := by
  have hk := (List.getElem?_eq_some_iff.1 h).1
  rw [turnXs_len] at hk
  have he := List.getElem?_eq_getElem hk
  rw [turnXs_get he] at h
  injection h with h
  exact ⟨_, he, h.symm⟩
theorem bestF_succ {S : List (Int × Bool)} {k : Nat} {e : Int × Bool} (h : S[k]? = some e) : bestF S (k + 1) = if (bestF S k).2 < votesAt S k then (e.1, votesAt S k) else bestF S k := by
  have e1 : bestF S (k + 1) = if (bestF S k).2 < votesAt S k then ((S[k]?.getD (0, false)).1, votesAt S k) else bestF S k := rfl
  rw [e1, h]; rfl
def turnsL (gs : List (Int × Int)) : List (Int × Bool) := sorted cmpE (endsL gs)
def bestE (gs : List (Int × Int)) : Int × Int := bestF (turnsL gs) (turnsL gs).length
def bestP (gs : List (Int × Int)) : (Int × Int) × Int := if (bestE gs).2 = 0 then ((0, 0), 0) else ((meetR (gs.filter (hasG (bestE gs).1))).1, (bestE gs).2)
theorem filter_take_succ {α : Type} {p : α → Bool} {l : List α} {k : Nat} {x : α} (hx : l[k]? = some x) : (l.take (k + 1)).filter p = (l.take k).filter p ++ if p x = true then [x] else [] := by
  rw [List.take_add_one, hx, List.filter_append]
  by_cases h : p x = true <;> simp [h]
theorem bestP_sat (gs : List (Int × Int)) (hn : gs.length ≤ 1000) : Sat Try.prog 25 [.d (.sl 2 (gs.map gR))] [] (.tup [gA (bestP gs).1, iA (bestP gs).2]) [] := by
  have hb0 : bestE gs = bestF (turnsL gs) (turnsL gs).length := rfl
  have hb1 : (bestE gs).2 = 0 → bestP gs = ((0, 0), 0) := fun h => if_pos h
  have hb2 : (bestE gs).2 ≠ 0 → bestP gs = ((meetR (gs.filter (hasG (bestE gs).1))).1, (bestE gs).2) := fun h => if_neg h
  generalize bestP gs = R at *
  have hm : (gs.map gR).length = gs.length := List.length_map _
  refine sat_of_vc (T := tiOf Try.prog) (E := E0) Try.func25 rfl rfl hE0 hm0 rfl ?_
  conv => whnf
  repeat (any_goals (first
    | exact True.intro
    | (refine Or.inl ?_; conv => whnf)
    | (refine And.intro (fun _ => ?_) tf; conv => whnf)
    | (refine And.intro ft (fun _ => ?_); conv => whnf)
    | (refine And.intro (by kernel_rfl) ?_; conv => whnf)
    | (refine And.intro (by decide) ?_; conv => whnf)
    | (refine And.intro (fun _ => ?_) (fun h => absurd h (by decide)); conv => whnf)
    | (refine And.intro (fun h => absurd h (by decide)) (fun _ => ?_); conv => whnf)
    | (refine And.intro (fun _ => ?_) (fun _ => ?_) <;> conv => whnf)
    | (refine ⟨_, _, (turns_sat gs hn).nw rfl, ?_⟩; conv => whnf)))
  have hel := ends_len gs
  have hsl : (turnsL gs).length = _ := sorted_len cmpE (endsL gs)
  rw [show sorted cmpE (endsL gs) = turnsL gs from rfl]
  generalize turnsL gs = S at hsl hb0 ⊢
  refine ⟨Int × Int, fun k z => z = bestF S k, fun z => [.cells [iA 0, iA 0], .cells [iA z.1], .cells [iA z.2], .sl 2 (S.map eR), .cells [.own 3]], [(14, .fn (.func 59) [] [.ptr 4 0]), (5, .ptr 2 0), (4, .ptr 1 0), (2, .ptr 0 0), (0, .d (.sl 2 (gs.map gR)))], 5, 59, [], [.ptr 4 0], [.dead, .dead, .dead, .sl 2 (S.map eR), .cells [.own 3]], turnXs S, ⟨(0, 0), rfl, ?_⟩, rfl, by kernel_rfl, turnsIt (by omega) rfl rfl, ?_, ?_, ?_, ?_⟩
  · all_goals refine ⟨[], ?_⟩
    repeat (any_goals (first | exact True.intro | exact rfl | with_reducible_and_instances rfl | exact (by kernel_rfl) | refine And.intro ?_ ?_))
    all_goals conv => whnf
  · exact turnXs_two S
  · exact fun k z _ => ⟨⟨rfl, rfl, trivial⟩, Nat.le_refl 5⟩
  · intro k z x hz hx
    subst hz
    obtain ⟨e, he, rfl⟩ := turnXs_out hx
    have hst := bestF_succ he
    conv => whnf
    repeat (any_goals (first
      | exact True.intro
      | (refine Or.inl ?_; conv => whnf)
      | (refine And.intro (fun _ => ?_) tf; conv => whnf)
      | (refine And.intro ft (fun _ => ?_); conv => whnf)
      | (refine And.intro (by kernel_rfl) ?_; conv => whnf)
      | (refine And.intro (by decide) ?_; conv => whnf)
      | (refine And.intro (fun _ => ?_) (fun h => absurd h (by decide)); conv => whnf)
      | (refine And.intro (fun h => absurd h (by decide)) (fun _ => ?_); conv => whnf)
      | (refine And.intro (fun _ => ?_) (fun _ => ?_) <;> conv => whnf)))
    all_goals try (exfalso; simp only [decide_eq_true_eq, decide_eq_false_iff_not, Bool.not_eq_true', Bool.not_eq_false', Bool.not_eq_true, Bool.not_eq_false, beq_iff_eq, bne_iff_ne, beq_eq_false_iff_ne, bne_eq_false_iff_eq, ne_eq, Decidable.not_not] at *; first | omega | contradiction | (simp_all; done) | (simp_all; omega))
    · refine ⟨_, rfl, ?_⟩
      rw [hst, if_pos (by have := (by (try simp only [decide_eq_true_eq, decide_eq_false_iff_not, Bool.not_eq_true', Bool.not_eq_false', Bool.not_eq_true, Bool.not_eq_false, beq_iff_eq, bne_iff_ne, beq_eq_false_iff_ne, bne_eq_false_iff_eq, ne_eq, Decidable.not_not, Int.natCast_eq_zero] at *); first | omega | assumption | (simp_all; done) | (simp_all; omega)); exact of_decide_eq_true ‹decide (votesAt S k > (bestF S k).snd) = true›)]
      all_goals refine ⟨[], ?_⟩
      repeat (any_goals (first | exact True.intro | exact rfl | with_reducible_and_instances rfl | exact (by kernel_rfl) | refine And.intro ?_ ?_))
      all_goals conv => whnf
    · refine ⟨_, rfl, ?_⟩
      rw [hst, if_neg (by exact of_decide_eq_false ‹decide (votesAt S k > (bestF S k).snd) = false›)]
      all_goals refine ⟨[], ?_⟩
      repeat (any_goals (first | exact True.intro | exact rfl | with_reducible_and_instances rfl | exact (by kernel_rfl) | refine And.intro ?_ ?_))
      all_goals conv => whnf
  · intro z hz
    rw [turnXs_len, ← hb0] at hz
    subst hz
    generalize bestE gs = z at hb1 hb2 ⊢
    repeat (any_goals (first
      | exact True.intro
      | (refine Or.inl ?_; conv => whnf)
      | (refine And.intro (fun _ => ?_) tf; conv => whnf)
      | (refine And.intro ft (fun _ => ?_); conv => whnf)
      | (refine And.intro (by kernel_rfl) ?_; conv => whnf)
      | (refine And.intro (by decide) ?_; conv => whnf)
      | (refine And.intro (fun _ => ?_) (fun h => absurd h (by decide)); conv => whnf)
      | (refine And.intro (fun h => absurd h (by decide)) (fun _ => ?_); conv => whnf)
      | (refine And.intro (fun _ => ?_) (fun _ => ?_) <;> conv => whnf)))
    · have h : (z.2 == 0) = true := by assumption
      rw [hb1 (by simpa using h)]
      all_goals refine ⟨[], ?_⟩
      repeat (any_goals (first | exact True.intro | exact rfl | with_reducible_and_instances rfl | exact (by kernel_rfl) | refine And.intro ?_ ?_))
      all_goals conv => whnf
    have h : (z.2 == 0) = false := by assumption
    rw [hb2 (by simpa using h)]
    refine ⟨Nat, fun k => k ≤ gs.length, fun k => ([(28, iA k), (27, iA gs.length), (26, .d (.sl 2 (gs.map gR))), (8, .own 5), (5, .ptr 2 0), (4, .ptr 1 0), (2, .ptr 0 0)], [.cells [iA 0, iA 0], .cells [iA z.1], .cells [iA z.2], .dead, .dead, .sl 2 (((gs.take k).filter (hasG z.1)).map gR)]), fun k => gs.length - k, ⟨0, Nat.zero_le _, ?_⟩, ?_⟩
    · all_goals refine ⟨[], ?_⟩
      repeat (any_goals (first | exact True.intro | exact rfl | with_reducible_and_instances rfl | exact (by kernel_rfl) | refine And.intro ?_ ?_))
      all_goals conv => whnf
      rw [hm]
    intro k hk
    conv => whnf
    have hfl := List.length_filter_le (hasG z.1) (gs.take k)
    rw [List.length_take] at hfl
    by_cases hlt : k < gs.length
    · have hx : gs[k]? = some gs[k] := List.getElem?_eq_getElem hlt
      generalize gs[k] = g at hx
      have hst := filter_take_succ (p := hasG z.1) hx
      repeat (any_goals (first
        | exact True.intro
        | (refine Or.inl ?_; conv => whnf)
        | (refine And.intro (fun _ => ?_) tf; conv => whnf)
        | (refine And.intro ft (fun _ => ?_); conv => whnf)
        | (refine And.intro (by kernel_rfl) ?_; conv => whnf)
        | (refine And.intro (by decide) ?_; conv => whnf)
        | (refine And.intro (fun _ => ?_) (fun h => absurd h (by decide)); conv => whnf)
        | (refine And.intro (fun h => absurd h (by decide)) (fun _ => ?_); conv => whnf)
        | (refine ⟨k, _, rfl, map_get hx, ?_⟩; conv => whnf)
        | (refine And.intro (fun _ => ?_) (fun _ => ?_) <;> conv => whnf)
        | (refine ⟨_, _, (gapHas_sat g z.1).pu rfl rfl, ?_⟩; conv => whnf)
        | (refine ⟨_, _, ap 2 16 (by kernel_rfl) rfl rfl (by simp; omega), ?_⟩; conv => whnf)))
      all_goals try (exfalso; simp only [decide_eq_true_eq, decide_eq_false_iff_not, Bool.not_eq_true', Bool.not_eq_false', Bool.not_eq_true, Bool.not_eq_false, beq_iff_eq, bne_iff_ne, beq_eq_false_iff_ne, bne_eq_false_iff_eq, ne_eq, Decidable.not_not] at *; first | omega | contradiction | (simp_all; done) | (simp_all; omega))
      · have h : hasG z.1 g = true := (by (try simp only [decide_eq_true_eq, decide_eq_false_iff_not, Bool.not_eq_true', Bool.not_eq_false', Bool.not_eq_true, Bool.not_eq_false, beq_iff_eq, bne_iff_ne, beq_eq_false_iff_ne, bne_eq_false_iff_eq, ne_eq, Decidable.not_not, Int.natCast_eq_zero] at *); first | omega | assumption | (simp_all; done) | (simp_all; omega))
        rw [if_pos h] at hst
        refine ⟨k + 1, hlt, show gs.length - (k + 1) < gs.length - k by omega, ?_⟩
        all_goals refine ⟨[(5, 8)], ?_⟩
        repeat (any_goals (first | exact True.intro | exact rfl | with_reducible_and_instances rfl | exact (by kernel_rfl) | refine And.intro ?_ ?_))
        all_goals conv => whnf
        · exact wk1 (by omega)
        · rw [hst, List.map_append]; rfl
      · have h : ¬ hasG z.1 g = true := (by (try simp only [decide_eq_true_eq, decide_eq_false_iff_not, Bool.not_eq_true', Bool.not_eq_false', Bool.not_eq_true, Bool.not_eq_false, beq_iff_eq, bne_iff_ne, beq_eq_false_iff_ne, bne_eq_false_iff_eq, ne_eq, Decidable.not_not, Int.natCast_eq_zero] at *); first | omega | assumption | (simp_all; done) | (simp_all; omega))
        rw [if_neg h, List.append_nil] at hst
        refine ⟨k + 1, hlt, show gs.length - (k + 1) < gs.length - k by omega, ?_⟩
        all_goals refine ⟨[], ?_⟩
        repeat (any_goals (first | exact True.intro | exact rfl | with_reducible_and_instances rfl | exact (by kernel_rfl) | refine And.intro ?_ ?_))
        all_goals conv => whnf
        · exact wk1 (by omega)
        · rw [hst]
    · have hke : k = gs.length := by omega
      subst hke
      rw [List.take_length] at hfl ⊢
      repeat (any_goals (first
        | exact True.intro
        | (refine Or.inl ?_; conv => whnf)
        | (refine And.intro (fun _ => ?_) tf; conv => whnf)
        | (refine And.intro ft (fun _ => ?_); conv => whnf)
        | (refine And.intro (by kernel_rfl) ?_; conv => whnf)
        | (refine And.intro (by decide) ?_; conv => whnf)
        | (refine And.intro (fun _ => ?_) (fun h => absurd h (by decide)); conv => whnf)
        | (refine And.intro (fun h => absurd h (by decide)) (fun _ => ?_); conv => whnf)
        | (refine And.intro (fun _ => ?_) (fun _ => ?_) <;> conv => whnf)
        | (refine ⟨_, _, lendO (meet_sat (gs.filter (hasG z.1)) (by omega)) rfl rfl, ?_⟩; conv => whnf)))
      all_goals try (exfalso; simp only [decide_eq_true_eq, decide_eq_false_iff_not, Bool.not_eq_true', Bool.not_eq_false', Bool.not_eq_true, Bool.not_eq_false, beq_iff_eq, bne_iff_ne, beq_eq_false_iff_ne, bne_eq_false_iff_eq, ne_eq, Decidable.not_not] at *; first | omega | contradiction | (simp_all; done) | (simp_all; omega))
      all_goals refine ⟨[], ?_⟩
      repeat (any_goals (first | exact True.intro | exact rfl | with_reducible_and_instances rfl | exact (by kernel_rfl) | refine And.intro ?_ ?_))
      all_goals conv => whnf
end Go.Proofs.Ytefidbifgilekaa
/- Sweep: Without. -/
namespace Go.Proofs.Ytefidbifgilekaa
set_option linter.unusedSimpArgs false
set_option linter.unusedVariables false
open Go.RowKit Go.Sort
set_option maxRecDepth 100000
def validN (gs : List (Int × Int)) : Nat := gs.countP okG
def outF (S : List (Int × Bool)) (n : Int) : Nat → (Int × Int) × Bool
  | 0 => ((0, 0), false)
  | k + 1 => if votesAt S k < n then outF S n k else ((if (outF S n k).2 = true then (outF S n k).1.1 else (S[k]?.getD (0, false)).1, (S[k]?.getD (0, false)).1), true)
theorem outF_succ {S : List (Int × Bool)} {n : Int} {k : Nat} {e : Int × Bool} (h : S[k]? = some e) : outF S n (k + 1) = if votesAt S k < n then outF S n k else ((if (outF S n k).2 = true then (outF S n k).1.1 else e.1, e.1), true) := by
  have e1 : outF S n (k + 1) = if votesAt S k < n then outF S n k else ((if (outF S n k).2 = true then (outF S n k).1.1 else (S[k]?.getD (0, false)).1, (S[k]?.getD (0, false)).1), true) := rfl
  rw [e1, h]; rfl
def outE (f : Int) (gs : List (Int × Int)) : (Int × Int) × Bool := outF (turnsL gs) ((validN gs : Int) - f) (turnsL gs).length
def withoutP (f : Int) (gs : List (Int × Int)) : (Int × Int) × Bool := if f < 0 ∨ (validN gs : Int) ≤ f then ((0, 0), false) else if (outE f gs).2 = true then ((outE f gs).1, true) else ((0, 0), false)
theorem withoutP_sat (f : Int) (gs : List (Int × Int)) (hn : gs.length ≤ 1000) : Sat Try.prog 28 [iA f, .d (.sl 2 (gs.map gR))] [] (.tup [gA (withoutP f gs).1, bA (withoutP f gs).2]) [] := by
  have hm : (gs.map gR).length = gs.length := List.length_map _
  refine sat_of_vc (T := tiOf Try.prog) (E := E0) Try.func28 rfl rfl hE0 hm0 rfl ?_
  conv => whnf
  repeat (any_goals (first
    | exact True.intro
    | (refine Or.inl ?_; conv => whnf)
    | (refine And.intro (fun _ => ?_) tf; conv => whnf)
    | (refine And.intro ft (fun _ => ?_); conv => whnf)
    | (refine And.intro (by kernel_rfl) ?_; conv => whnf)
    | (refine And.intro (by decide) ?_; conv => whnf)
    | (refine And.intro (fun _ => ?_) (fun h => absurd h (by decide)); conv => whnf)
    | (refine And.intro (fun h => absurd h (by decide)) (fun _ => ?_); conv => whnf)
    | (refine And.intro (fun _ => ?_) (fun _ => ?_) <;> conv => whnf)))
  refine ⟨Nat, fun k => k ≤ gs.length, fun k => ([(15, iA k), (14, iA gs.length), (13, .d (.sl 2 (gs.map gR))), (6, .ptr 2 0), (4, .ptr 1 0), (2, .ptr 0 0), (1, .d (.sl 2 (gs.map gR)))], [.cells [iA f], .cells [iA 0, iA 0], .cells [iA (validN (gs.take k))]]), fun k => gs.length - k, ⟨0, Nat.zero_le _, ?_⟩, ?_⟩
  · all_goals refine ⟨[], ?_⟩
    repeat (any_goals (first | exact True.intro | exact rfl | with_reducible_and_instances rfl | exact (by kernel_rfl) | refine And.intro ?_ ?_))
    all_goals conv => whnf
    rw [hm]
  intro k hk
  conv => whnf
  have hv : validN (gs.take k) ≤ gs.length := Nat.le_trans List.countP_le_length (by rw [List.length_take]; omega)
  by_cases hlt : k < gs.length
  · have hx : gs[k]? = some gs[k] := List.getElem?_eq_getElem hlt
    generalize gs[k] = g at hx
    have hst : validN (gs.take (k + 1)) = validN (gs.take k) + if okG g = true then 1 else 0 := count_take_succ hx
    repeat (any_goals (first
      | exact True.intro
      | (refine Or.inl ?_; conv => whnf)
      | (refine And.intro (fun _ => ?_) tf; conv => whnf)
      | (refine And.intro ft (fun _ => ?_); conv => whnf)
      | (refine And.intro (by kernel_rfl) ?_; conv => whnf)
      | (refine And.intro (by decide) ?_; conv => whnf)
      | (refine And.intro (fun _ => ?_) (fun h => absurd h (by decide)); conv => whnf)
      | (refine And.intro (fun h => absurd h (by decide)) (fun _ => ?_); conv => whnf)
      | (refine ⟨k, _, rfl, map_get hx, ?_⟩; conv => whnf)
      | (refine And.intro (fun _ => ?_) (fun _ => ?_) <;> conv => whnf)
      | (refine ⟨_, _, (gapRight_sat g).pu rfl rfl, ?_⟩; conv => whnf)))
    all_goals try (exfalso; simp only [decide_eq_true_eq, decide_eq_false_iff_not, Bool.not_eq_true', Bool.not_eq_false', Bool.not_eq_true, Bool.not_eq_false, beq_iff_eq, bne_iff_ne, beq_eq_false_iff_ne, bne_eq_false_iff_eq, ne_eq, Decidable.not_not] at *; first | omega | contradiction | (simp_all; done) | (simp_all; omega))
    · have h : okG g = true := (by (try simp only [decide_eq_true_eq, decide_eq_false_iff_not, Bool.not_eq_true', Bool.not_eq_false', Bool.not_eq_true, Bool.not_eq_false, beq_iff_eq, bne_iff_ne, beq_eq_false_iff_ne, bne_eq_false_iff_eq, ne_eq, Decidable.not_not, Int.natCast_eq_zero] at *); first | omega | assumption | (simp_all; done) | (simp_all; omega))
      rw [if_pos h] at hst
      refine ⟨k + 1, hlt, show gs.length - (k + 1) < gs.length - k by omega, ?_⟩
      all_goals refine ⟨[], ?_⟩
      repeat (any_goals (first | exact True.intro | exact rfl | with_reducible_and_instances rfl | exact (by kernel_rfl) | refine And.intro ?_ ?_))
      all_goals conv => whnf
      · exact wk1 (by omega)
      · rw [hst]
        exact wk1 (by omega)
    · have h : ¬ okG g = true := (by (try simp only [decide_eq_true_eq, decide_eq_false_iff_not, Bool.not_eq_true', Bool.not_eq_false', Bool.not_eq_true, Bool.not_eq_false, beq_iff_eq, bne_iff_ne, beq_eq_false_iff_ne, bne_eq_false_iff_eq, ne_eq, Decidable.not_not, Int.natCast_eq_zero] at *); first | omega | assumption | (simp_all; done) | (simp_all; omega))
      rw [if_neg h] at hst
      refine ⟨k + 1, hlt, show gs.length - (k + 1) < gs.length - k by omega, ?_⟩
      all_goals refine ⟨[], ?_⟩
      repeat (any_goals (first | exact True.intro | exact rfl | with_reducible_and_instances rfl | exact (by kernel_rfl) | refine And.intro ?_ ?_))
      all_goals conv => whnf
      · exact wk1 (by omega)
      · rw [hst]; rfl
  · have hke : k = gs.length := by omega
    subst hke
    rw [List.take_length] at hv ⊢
    have hb0 : outE f gs = outF (turnsL gs) ((validN gs : Int) - f) (turnsL gs).length := rfl
    have hr1 : f < 0 ∨ (validN gs : Int) ≤ f → withoutP f gs = ((0, 0), false) := fun h => if_pos h
    have hr2 : ¬ (f < 0 ∨ (validN gs : Int) ≤ f) → withoutP f gs = if (outE f gs).2 = true then ((outE f gs).1, true) else ((0, 0), false) := fun h => if_neg h
    generalize withoutP f gs = R at *
    repeat (any_goals (first
      | exact True.intro
      | (refine Or.inl ?_; conv => whnf)
      | (refine And.intro (fun _ => ?_) tf; conv => whnf)
      | (refine And.intro ft (fun _ => ?_); conv => whnf)
      | (refine And.intro (by kernel_rfl) ?_; conv => whnf)
      | (refine And.intro (by decide) ?_; conv => whnf)
      | (refine And.intro (fun _ => ?_) (fun h => absurd h (by decide)); conv => whnf)
      | (refine And.intro (fun h => absurd h (by decide)) (fun _ => ?_); conv => whnf)
      | (refine And.intro (fun _ => ?_) (fun _ => ?_) <;> conv => whnf)
      | (refine ⟨_, _, (turns_sat gs hn).nw rfl, ?_⟩; conv => whnf)))
    all_goals try (exfalso; simp only [decide_eq_true_eq, decide_eq_false_iff_not, Bool.not_eq_true', Bool.not_eq_false', Bool.not_eq_true, Bool.not_eq_false, beq_iff_eq, bne_iff_ne, beq_eq_false_iff_ne, bne_eq_false_iff_eq, ne_eq, Decidable.not_not] at *; first | omega | contradiction | (simp_all; done) | (simp_all; omega))
    · rw [hr1 (.inr (of_decide_eq_true ‹decide (f ≥ ↑(validN gs)) = true›))]
      all_goals refine ⟨[], ?_⟩
      repeat (any_goals (first | exact True.intro | exact rfl | with_reducible_and_instances rfl | exact (by kernel_rfl) | refine And.intro ?_ ?_))
      all_goals conv => whnf
    · have f0 : ¬ f < 0 := of_decide_eq_false ‹decide (f < 0) = false›
      have f1 : ¬ f ≥ (validN gs : Int) := of_decide_eq_false ‹decide (f ≥ ↑(validN gs)) = false›
      have hw : IntKind.i64.wrap ((validN gs : Int) - f) = (validN gs : Int) - f := wi (by omega) (by omega)
      rw [hr2 (by omega)]
      have hel := ends_len gs
      have hsl : (turnsL gs).length = _ := sorted_len cmpE (endsL gs)
      rw [show sorted cmpE (endsL gs) = turnsL gs from rfl]
      generalize turnsL gs = S at hsl hb0 ⊢
      refine ⟨(Int × Int) × Bool, fun k z => z = outF S ((validN gs : Int) - f) k, fun z => [.cells [iA f], .cells [iA 0, iA 0], .cells [iA (validN gs)], .cells [iA z.1.1, iA z.1.2], .cells [bA z.2], .sl 2 (S.map eR), .cells [.own 5]], [(33, .fn (.func 59) [] [.ptr 6 0]), (10, .ptr 4 0), (9, .ptr 3 0), (6, .ptr 2 0), (4, .ptr 1 0), (2, .ptr 0 0)], 7, 59, [], [.ptr 6 0], [.dead, .dead, .dead, .dead, .dead, .sl 2 (S.map eR), .cells [.own 5]], turnXs S, ⟨((0, 0), false), rfl, ?_⟩, rfl, by kernel_rfl, turnsIt (by omega) rfl rfl, ?_, ?_, ?_, ?_⟩
      · all_goals refine ⟨[], ?_⟩
        repeat (any_goals (first | exact True.intro | exact rfl | with_reducible_and_instances rfl | exact (by kernel_rfl) | refine And.intro ?_ ?_))
        all_goals conv => whnf
      · exact turnXs_two S
      · exact fun k z _ => ⟨⟨rfl, rfl, trivial⟩, Nat.le_refl 7⟩
      · intro k z x hz hx
        subst hz
        obtain ⟨e, he, rfl⟩ := turnXs_out hx
        have hst := outF_succ (n := (validN gs : Int) - f) he
        obtain ⟨z', hz'⟩ : ∃ z', z' = outF S ((validN gs : Int) - f) (k + 1) := ⟨_, rfl⟩
        rw [← hz'] at hst
        generalize outF S ((validN gs : Int) - f) k = z at hst ⊢
        conv => whnf
        repeat (any_goals (first
          | exact True.intro
          | (refine Or.inl ?_; conv => whnf)
          | (refine And.intro (fun _ => ?_) tf; conv => whnf)
          | (refine And.intro ft (fun _ => ?_); conv => whnf)
          | (refine And.intro (by kernel_rfl) ?_; conv => whnf)
          | (refine And.intro (by decide) ?_; conv => whnf)
          | (refine And.intro (fun _ => ?_) (fun h => absurd h (by decide)); conv => whnf)
          | (refine And.intro (fun h => absurd h (by decide)) (fun _ => ?_); conv => whnf)
          | (refine And.intro (fun _ => ?_) (fun _ => ?_) <;> conv => whnf)))
        all_goals try (exfalso; simp only [decide_eq_true_eq, decide_eq_false_iff_not, Bool.not_eq_true', Bool.not_eq_false', Bool.not_eq_true, Bool.not_eq_false, beq_iff_eq, bne_iff_ne, beq_eq_false_iff_ne, bne_eq_false_iff_eq, ne_eq, Decidable.not_not] at *; first | omega | contradiction | (simp_all; done) | (simp_all; omega))
        · have q := of_decide_eq_true ‹decide (votesAt S k < _) = true›
          rw [hw] at q
          rw [if_pos q] at hst
          refine ⟨z', hz', ?_⟩
          rw [hst]
          all_goals refine ⟨[], ?_⟩
          repeat (any_goals (first | exact True.intro | exact rfl | with_reducible_and_instances rfl | exact (by kernel_rfl) | refine And.intro ?_ ?_))
          all_goals conv => whnf
        · have q := of_decide_eq_false ‹decide (votesAt S k < _) = false›
          have q' : ¬ z.2 = true := by have : (!z.2) = true := by assumption
                                       simpa using this
          rw [hw] at q
          rw [if_neg q, if_neg q'] at hst
          refine ⟨z', hz', ?_⟩
          rw [hst]
          all_goals refine ⟨[], ?_⟩
          repeat (any_goals (first | exact True.intro | exact rfl | with_reducible_and_instances rfl | exact (by kernel_rfl) | refine And.intro ?_ ?_))
          all_goals conv => whnf
        · have q := of_decide_eq_false ‹decide (votesAt S k < _) = false›
          have q' : z.2 = true := by have : (!z.2) = false := by assumption
                                     simpa using this
          rw [hw] at q
          rw [if_neg q, if_pos q'] at hst
          refine ⟨z', hz', ?_⟩
          rw [hst]
          all_goals refine ⟨[], ?_⟩
          repeat (any_goals (first | exact True.intro | exact rfl | with_reducible_and_instances rfl | exact (by kernel_rfl) | refine And.intro ?_ ?_))
          all_goals conv => whnf
          rw [q']
      · intro z hz
        rw [turnXs_len, ← hb0] at hz
        subst hz
        generalize outE f gs = z
        repeat (any_goals (first
          | exact True.intro
          | (refine Or.inl ?_; conv => whnf)
          | (refine And.intro (fun _ => ?_) tf; conv => whnf)
          | (refine And.intro ft (fun _ => ?_); conv => whnf)
          | (refine And.intro (by kernel_rfl) ?_; conv => whnf)
          | (refine And.intro (by decide) ?_; conv => whnf)
          | (refine And.intro (fun _ => ?_) (fun h => absurd h (by decide)); conv => whnf)
          | (refine And.intro (fun h => absurd h (by decide)) (fun _ => ?_); conv => whnf)
          | (refine And.intro (fun _ => ?_) (fun _ => ?_) <;> conv => whnf)))
        · have q' : ¬ z.2 = true := by have : (!z.2) = true := by assumption
                                       simpa using this
          rw [if_neg q']
          all_goals refine ⟨[], ?_⟩
          repeat (any_goals (first | exact True.intro | exact rfl | with_reducible_and_instances rfl | exact (by kernel_rfl) | refine And.intro ?_ ?_))
          all_goals conv => whnf
        · have q' : z.2 = true := by have : (!z.2) = false := by assumption
                                     simpa using this
          rw [if_pos q']
          all_goals refine ⟨[], ?_⟩
          repeat (any_goals (first | exact True.intro | exact rfl | with_reducible_and_instances rfl | exact (by kernel_rfl) | refine And.intro ?_ ?_))
          all_goals conv => whnf
    · rw [hr1 (.inl (of_decide_eq_true ‹decide (f < 0) = true›))]
      all_goals refine ⟨[], ?_⟩
      repeat (any_goals (first | exact True.intro | exact rfl | with_reducible_and_instances rfl | exact (by kernel_rfl) | refine And.intro ?_ ?_))
      all_goals conv => whnf
end Go.Proofs.Ytefidbifgilekaa
