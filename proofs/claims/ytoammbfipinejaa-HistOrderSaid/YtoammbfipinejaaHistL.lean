/- HistOrder. -/
import Derived.Test.YtoammbfipinejaaHistK
namespace Go.Proofs.Ytoammbfipinejaa
open Go.ChangeShapes Go.WideShapes Go.ChangeAt Go.RowKit
set_option linter.unusedVariables false
set_option linter.unusedSimpArgs false
theorem countP_snoc {α : Type} (p : α → Bool) {l : List α} {k : Nat} {x : α} (h : l[k]? = some x) : (l.take (k + 1)).countP p = (l.take k).countP p + if p x = true then 1 else 0 := by
  rw [take_snoc_get h, List.countP_append, List.countP_singleton]
set_option maxHeartbeats 2000000 in
set_option maxRecDepth 100000 in
theorem order_yes (A : Option Addr) (n c : Nat) (xs : List Int) (w : World) (hr : Rd w w.heap.size 1 A n (xs.map i64v)) (hn : n ≤ 60) (hnc : n ≤ c) (hx : inL xs) :
    Calls Try.prog 11 #[.slice A n c] w fun e w' => e = .returned (.bool true) ∧ Below w.heap.size w w' := by
  have HN := hide hr.len
  have HX := hide hx
  have hn0 : decide ((60 : Int) < (n : Int)) = false := decide_eq_false (by omega)
  clear hx
  go_enter Try.func11, Try.ntmps11
  go_wp2_with fail
  refine (alive5_any _).mono ?_
  rintro e w1 ⟨rfl, b1⟩
  have B1 := hide b1
  have R1 := hide (hr.next b1)
  clear b1 hr
  go_wp2_with fail
  refine (of_any A n c xs _ R1.out (by omega) HX.out).mono ?_
  rintro e w2 ⟨rfl, b2⟩
  have B2 := hide (B1.out.trans (b2.mono B1.out.size))
  have R2 := hide (R1.out.next b2)
  clear b2 B1 R1
  go_wp2_with (first | refine pause (.load 69 _) rfl ?_ | refine pause (.store 69 _ _) rfl ?_)
  refine unpause ?_
  have B3 := hide (below_setRow (B2.out.alloc B2.out.size (.cells Try.zeroCells69 69)) (g := w2.heap.size) B2.out.size (hc (histL xs)))
  have B3c := hide (below_setRow ((Below.refl w2.heap.size w2).alloc (Nat.le_refl _) (.cells Try.zeroCells69 69)) (g := w2.heap.size) (Nat.le_refl _) (hc (histL xs)))
  have K3 := hide ((Blk.new w2 69 Try.zeroCells69).setRow (hc (histL xs)))
  refine wpList_store_blk rfl 69 (.tmp 3) (.tmp 19) rfl w2.heap.size rfl Try.zeroCells69 (hc (histL xs)) rfl (Blk.new w2 _ _) (by rw [hc_size, histL_len]; rfl) (info69l (histL_len _)) (hc_one _) ?_
  generalize (w2.alloc (.cells Try.zeroCells69 69)).setRow w2.heap.size (hc (histL xs)) = w3 at *
  have hw2 : w.heap.size ≤ w2.heap.size := B2.out.size
  go_wp2_with fail
  go_loopw [2, 4] (fun _ i wr => ∃ k : Nat, k ≤ n ∧ i = .int .i64 k ∧ Hid (Blk wr w2.heap.size 69 (hc (histL xs))) ∧ Hid (Below w.heap.size w wr) ∧ Hid (Below w2.heap.size w2 wr)) (fun _ i _ => n - (intOf i).toNat)
  case atStart => exact ⟨0, Nat.zero_le _, rfl, K3, B3, B3c⟩
  case round =>
    clear K3 B3 B3c
    obtain ⟨k, hk, rfl, KR, BR, BC⟩ := hrel
    by_cases hk1 : k < n
    · obtain ⟨b, hb65, hrank, hlo, hhi⟩ := histL_rank xs HX.out k (by have := HN.out; omega)
      have HR := hide hrank
      clear hrank
      go_wp2_with fail
      refine region_flow (by kernel_rfl) (by kernel_rfl) (Γ := Unit) (fun _ => [.agg (hc (histL xs)), .int .i64 k, .agg (wv k), .tuple #[.int .i64 b, .bool true], .tuple #[.int .i64 b, .bool true], .int .i64 b, .bool true, .int .i64 b, .bool true])
        (fun l γ W => Below wr.heap.size wr W) (fun _ => rfl) () (Below.refl _ _).drew ?step ?fin
      case step =>
        refine ⟨?_, ?_, ?_, ?_, ?_, ?_, ?_, ?_, ?_, trivial⟩
        · intro l γ W hG hl hw hcl; exact stepV_value rfl _ (exec_load_blk 69 _ rfl w2.heap.size rfl (hc (histL xs)) _ (KR.out.next hG) Try.underlying69 rfl (info69l (histL_len _))) (.inr rfl) hG
        · intro l γ W hG hl hw hcl; exact stepV_value rfl _ rfl (.inr rfl) hG
        · intro l γ W hG hl hw hcl
          refine stepV_call rfl 51 _ (exec_call _ _ _ rfl rfl (enters_of Try.func51 (by kernel_rfl) rfl) [.int .i64 k] rfl) ?_
          refine (wideOf_any k _ (by omega) (by omega)).mono ?_
          rintro e w' ⟨rfl, hb⟩
          exact ⟨_, γ, rfl, SameV.refl _ _ _, .inr rfl, below_on hG hb⟩
        · intro l γ W hG hl hw hcl
          refine stepV_call rfl 48 _ (exec_call _ _ _ rfl rfl (enters_of Try.func48 (by kernel_rfl) rfl) [.agg (hc (histL xs)), .agg (wv k)] rfl) ?_
          refine (rank_any (histL xs) k _ (histL_len _) (fun y hy => by have := histL_mem _ y hy; have := HN.out; omega)).mono ?_
          rintro e w' ⟨rfl, hb⟩
          rw [HR.out]
          exact ⟨_, γ, rfl, SameV.refl _ _ _, .inr rfl, below_on hG hb⟩
        · intro l γ W hG hl hw hcl; exact stepV_value rfl _ rfl (.inr rfl) hG
        · intro l γ W hG hl hw hcl; exact stepV_value rfl _ (exec_extract _ _ rfl _ rfl rfl) (.inr rfl) hG
        · intro l γ W hG hl hw hcl; exact stepV_value rfl _ (exec_extract _ _ rfl _ rfl rfl) (.inr rfl) hG
        · intro l γ W hG hl hw hcl; exact stepV_value rfl _ rfl (.inr rfl) hG
        · intro l γ W hG hl hw hcl; exact stepV_value rfl _ rfl (.inr rfl) hG
      case fin =>
        intro l γ W hall hG
        have KW := hide (KR.out.next hG)
        have BW := hide (BR.out.trans (hG.mono BR.out.size))
        have BCW := hide (BC.out.trans (hG.mono BC.out.size))
        have RW := hide (rd_on R2.out BCW.out)
        clear hG KR BR BC HR hall
        simp only [putAll, Act.put, List.setIfInBounds_toArray, List.set_cons_succ, List.set_cons_zero]
        go_wp2_with fail
        have HLO := hide hlo
        have HHI := hide hhi
        clear hlo hhi
        go_loop [7, 8, 9] (fun a s i => ∃ j : Nat, j ≤ n ∧ i = .int .i64 j ∧ a = .int .i64 (((xs.take j).countP (fun v => decide (bkt v < b)) : Nat) : Int) ∧ s = .int .i64 (((xs.take j).countP (fun v => bkt v == b) : Nat) : Int)) (fun _ _ i => n - (intOf i).toNat)
        case atStart => exact ⟨0, Nat.zero_le _, rfl, rfl, rfl⟩
        case round =>
          obtain ⟨j, hj, rfl, rfl, rfl⟩ := hrel
          by_cases hj1 : j < n
          · obtain ⟨ba, off, rfl, hbb, x, hx, hcell⟩ := RW.out.get hj1
            have hxl := HX.out x (List.mem_of_getElem? hx)
            have HB := hide (fun w => bucket_any x w hxl.1 hxl.2)
            have HA := hide (countP_snoc (fun v => decide (bkt v < b)) hx)
            have HS := hide (countP_snoc (fun v => bkt v == b) hx)
            have ha := List.countP_le_length (p := fun v => decide (bkt v < b)) (l := xs.take j)
            have hs := List.countP_le_length (p := fun v => bkt v == b) (l := xs.take j)
            rw [List.length_take] at ha hs
            unfold i64v at hcell
            clear hx hxl
            generalize bkt x = q at *
            generalize hca : (xs.take j).countP (fun v => decide (bkt v < b)) = ca at *
            generalize hcs : (xs.take j).countP (fun v => bkt v == b) = cs at *
            clear hca hcs
            have ha1 : ca ≤ 60 := by omega
            have hs1 : cs ≤ 60 := by omega
            clear ha hs
            rcases Nat.lt_trichotomy q b with h | h | h
            · have e1 : decide (q < b) = true := decide_eq_true h
              have e2 : ((q : Int) == (b : Int)) = false := by rw [beq_eq_false_iff_ne]; omega
              have e3 : (q == b) = false := by rw [beq_eq_false_iff_ne]; omega
              rw [e1, if_pos rfl] at HA
              rw [e3, if_neg (by simp)] at HS
              have H1 := hide e1
              clear e3
              go_wp2_with (go_at_call 52; refine (HB.out _).mono ?_; rintro e w' ⟨rfl, rfl⟩)
              go_round
              case rel => exact ⟨j + 1, by omega, by go_num, by rw [HA.out]; go_num, by rw [HS.out]; rfl⟩
              case measure => simp [intOf]; omega
            · subst h
              have e1 : decide (q < q) = false := decide_eq_false (by omega)
              rw [e1, if_neg (by simp)] at HA
              rw [show (q == q) = true by simp, if_pos rfl] at HS
              clear e1
              go_wp2_with (go_at_call 52; refine (HB.out _).mono ?_; rintro e w' ⟨rfl, rfl⟩)
              go_round
              case rel => exact ⟨j + 1, by omega, by go_num, by rw [HA.out]; rfl, by rw [HS.out]; go_num⟩
              case measure => simp [intOf]; omega
            · have e1 : decide (q < b) = false := decide_eq_false (by omega)
              have e2 : ((q : Int) == (b : Int)) = false := by rw [beq_eq_false_iff_ne]; omega
              have e3 : (q == b) = false := by rw [beq_eq_false_iff_ne]; omega
              rw [e1, if_neg (by simp)] at HA
              rw [e3, if_neg (by simp)] at HS
              clear e3
              go_wp2_with (go_at_call 52; refine (HB.out _).mono ?_; rintro e w' ⟨rfl, rfl⟩)
              go_round
              case rel => exact ⟨j + 1, by omega, by go_num, by rw [HA.out]; rfl, by rw [HS.out]; rfl⟩
              case measure => simp [intOf]; omega
          · have hjn : j = n := by omega
            subst hjn
            rw [show xs.take j = xs from List.take_of_length_le (by have := HN.out; omega)]
            have hlo := HLO.out
            have hhi := HHI.out
            have ha := List.countP_le_length (p := fun v => decide (bkt v < b)) (l := xs)
            have hs := List.countP_le_length (p := fun v => bkt v == b) (l := xs)
            rw [HN.out] at ha hs
            generalize xs.countP (fun v => decide (bkt v < b)) = ca at *
            generalize xs.countP (fun v => bkt v == b) = cs at *
            have d1 : decide (k < ca) = false := decide_eq_false (by omega)
            have d2 : decide ((ca : Int) + (cs : Int) ≤ (k : Int)) = false := decide_eq_false (by omega)
            clear HLO HHI
            go_wp2_with fail
            go_roundw
            case rel => exact ⟨k + 1, by omega, by go_num, KW, BW, BCW⟩
            case measure => simp [intOf]; omega
    · have hkn : k = n := by omega
      subst hkn
      have HRB := hide (histL_beyond xs HX.out)
      rw [HN.out] at HRB
      go_wp2_with fail
      refine region_flow (by kernel_rfl) (by kernel_rfl) (Γ := Unit) (fun _ => [.agg (hc (histL xs)), .slice A k c, .int .i64 k, .agg (wv k), .tuple #[.int .i64 0, .bool false], .tuple #[.int .i64 0, .bool false], .int .i64 0, .bool false, .int .i64 0, .bool false])
        (fun l γ W => Below wr.heap.size wr W) (fun _ => rfl) () (Below.refl _ _).drew ?step ?fin
      case step =>
        refine ⟨?_, ?_, ?_, ?_, ?_, ?_, ?_, ?_, ?_, ?_, trivial⟩
        · intro l γ W hG hl hw hcl; exact stepV_value rfl _ (exec_load_blk 69 _ rfl w2.heap.size rfl (hc (histL xs)) _ (KR.out.next hG) Try.underlying69 rfl (info69l (histL_len _))) (.inr rfl) hG
        · intro l γ W hG hl hw hcl; exact stepV_value rfl _ rfl (.inr rfl) hG
        · intro l γ W hG hl hw hcl; exact stepV_value rfl _ (exec_len _ _ _ rfl Try.underlying44 A k c rfl) (.inr rfl) hG
        · intro l γ W hG hl hw hcl
          refine stepV_call rfl 51 _ (exec_call _ _ _ rfl rfl (enters_of Try.func51 (by kernel_rfl) rfl) [.int .i64 k] rfl) ?_
          refine (wideOf_any k _ (by omega) (by omega)).mono ?_
          rintro e w' ⟨rfl, hb⟩
          exact ⟨_, γ, rfl, SameV.refl _ _ _, .inr rfl, below_on hG hb⟩
        · intro l γ W hG hl hw hcl
          refine stepV_call rfl 48 _ (exec_call _ _ _ rfl rfl (enters_of Try.func48 (by kernel_rfl) rfl) [.agg (hc (histL xs)), .agg (wv k)] rfl) ?_
          refine (rank_any (histL xs) k _ (histL_len _) (fun y hy => by have := histL_mem _ y hy; have := HN.out; omega)).mono ?_
          rintro e w' ⟨rfl, hb⟩
          rw [HRB.out]
          exact ⟨_, γ, rfl, SameV.refl _ _ _, .inr rfl, below_on hG hb⟩
        · intro l γ W hG hl hw hcl; exact stepV_value rfl _ rfl (.inr rfl) hG
        · intro l γ W hG hl hw hcl; exact stepV_value rfl _ (exec_extract _ _ rfl _ rfl rfl) (.inr rfl) hG
        · intro l γ W hG hl hw hcl; exact stepV_value rfl _ (exec_extract _ _ rfl _ rfl rfl) (.inr rfl) hG
        · intro l γ W hG hl hw hcl; exact stepV_value rfl _ rfl (.inr rfl) hG
        · intro l γ W hG hl hw hcl; exact stepV_value rfl _ rfl (.inr rfl) hG
      case fin =>
        intro l γ W hall hG
        simp only [putAll, Act.put, List.setIfInBounds_toArray, List.set_cons_succ, List.set_cons_zero]
        go_wp2_with fail
        go_ret
        exact ⟨rfl, BR.out.trans (hG.mono BR.out.size)⟩
theorem order_walk (A : Option Addr) (n c : Nat) (xs : List Int) (w : World) (hr : Rd w w.heap.size 1 A n (xs.map i64v)) (hnc : n ≤ c) (hcap : c ≤ 140737488351232) (hx : inL xs) :
    Calls Try.prog 11 #[.slice A n c] w fun e w' => e = .returned (.bool true) ∧ Below w.heap.size w w' := by
  by_cases c1 : 60 < n
  · have d1 : decide ((60 : Int) < (n : Int)) = true := decide_eq_true (by omega)
    clear hr hx c1
    go_enter Try.func11, Try.ntmps11
    go_wp2_with fail
    refine (alive5_any _).mono ?_
    rintro e w1 ⟨rfl, b1⟩
    go_wp2_with fail
    go_ret
    exact ⟨rfl, b1⟩
  · exact order_yes A n c xs w hr (by omega) hnc hx
set_option maxRecDepth 100000 in
theorem order_law (H : Type) (enc : TypeId × Value → H) : LawWalk H enc Try.prog 11 Try.f11 := by
  intro W base args ds p hval hA hwt
  rw [Try.params11] at hA hval hwt
  obtain ⟨v0, vs0, d0, ds0, p0, q0, hargs, rfl, rfl, h0, r0⟩ := trodAll_cons hA
  obtain ⟨rfl, rfl, rfl⟩ := trodAll_nil r0
  obtain rfl : args = #[v0] := by cases args; simp_all
  simp only [DataW.weightsEach, List.all_append, Bool.and_eq_true] at hwt
  obtain ⟨w0, _⟩ := hwt
  obtain ⟨Axs, nxs, cxs, lxs, rfl, hrxs, hcxs, hmxs, hwxs⟩ := open_nums Try.underlying44 Try.underlying2 (by kernel_rfl) (by decide +kernel) (hval 0 _ _ rfl rfl) h0 w0
  exact order_walk Axs nxs cxs lxs W hrxs hcxs hmxs (fun x hx => bounds_i64 (hwxs x hx))
set_option maxRecDepth 100000 in
theorem order_lifted (os : Os) (started : os.Started) (H : Type) (enc : TypeId × Value → H) :
    ReturnsInHanded {} Try.checked os 11 .any (Rows.histOrderSpec.pre6 enc Try.prog Try.f11 Rows.histOrderRow.domain false) (Rows.histOrderSpec.post enc Try.prog Try.f11 false true false false) :=
  lift_law (C := Try.checked) (s := Rows.histOrderSpec) laidOut own started (by kernel_rfl) Try.func11 (by kernel_rfl) Try.underlying4 (by kernel_rfl) rfl
      (fun ds hd => by rw [Try.params11] at hd; match ds, hd with | [_], _ => rfl)
      (ChangeSpec.witness6 (enc := enc) (C := Try.checked) false ⟨#[], #[.slice none 0 0], []⟩ 8 (by kernel_rfl) (by kernel_rfl) (by kernel_rfl) (by kernel_rfl))
      (order_law H enc)
theorem order_holds : Rows.HistOrderSaid :=
  OpenClaim.holds_of_wide 11 Try.f11 rfl rfl rfl rfl rfl rfl rfl ⟨rfl, rfl, rfl, rfl, rfl⟩ rfl rfl rfl rfl rfl (by kernel_rfl) Try.func11 (by kernel_rfl)
    (of_decide_eq_true (by kernel_rfl)) (by unfold Func.isWrapper; first | (rw [if_pos (by decide +kernel)]; kernel_rfl) | (rw [if_neg (by decide +kernel)]; exact ⟨rfl, rfl⟩))
    (fun os started H enc _ => order_lifted os started H enc)
#print axioms order_holds
end Go.Proofs.Ytoammbfipinejaa
