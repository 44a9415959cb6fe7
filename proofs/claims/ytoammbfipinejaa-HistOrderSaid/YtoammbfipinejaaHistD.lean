/- Wide numbers: Cmp, Of; Rank. -/
import Derived.Test.YtoammbfipinejaaHistC
import Derived.Deep.RegionHeld3
namespace Go.Proofs.Ytoammbfipinejaa
open Go.RowKit
set_option linter.unusedVariables false
set_option linter.unusedSimpArgs false
def cmpZ (A B : Int) : Int := if B < A then 1 else if A = B then 0 else -1
set_option maxRecDepth 100000 in
theorem wideOf_any (v : Int) (w : World) (h1 : -9223372036854775808 ≤ v) (h2 : v ≤ 9223372036854775807) :
    Calls Try.prog 51 #[.int .i64 v] w fun e w' => e = .returned (.agg (wv v)) ∧ Below w.heap.size w w' := by
  go_enter Try.func51, Try.ntmps51
  go_wp2_with fail
  refine bodyPost_ret_by (results_cell rfl _ w.heap.size rfl #[.int .i64 (v / 9223372036854775808), .int .u64 (IntKind.u64.wrap v)] _ (Blk.new _ _ _) Try.underlying81 rfl info81) rfl ⟨?_, (Below.refl _ _).alloc (Nat.le_refl _) _⟩
  rw [wv, u64_wrap, show v / 9223372036854775808 = v / 18446744073709551616 by omega]
set_option maxRecDepth 100000 in
theorem cmp_any (A B : Int) (w : World) :
    Calls Try.prog 86 #[.agg (wv A), .agg (wv B)] w fun e w' => e = .returned (.int .i64 (cmpZ A B)) ∧ Below w.heap.size w w' := by
  have HA : Hid (A = A / 18446744073709551616 * 18446744073709551616 + A % 18446744073709551616) := hide (by omega)
  have HB : Hid (B = B / 18446744073709551616 * 18446744073709551616 + B % 18446744073709551616) := hide (by omega)
  have ha1 : 0 ≤ A % 18446744073709551616 := by omega
  have hb1 : 0 ≤ B % 18446744073709551616 := by omega
  have ha2 : A % 18446744073709551616 < 18446744073709551616 := by omega
  have hb2 : B % 18446744073709551616 < 18446744073709551616 := by omega
  unfold wv
  generalize A / 18446744073709551616 = a at *
  generalize A % 18446744073709551616 = b at *
  generalize B / 18446744073709551616 = c at *
  generalize B % 18446744073709551616 = d at *
  have hb2 : Below w.heap.size w ((w.alloc (.cells #[.int .i64 a, .int .u64 b] 81)).alloc (.cells #[.int .i64 c, .int .u64 d] 81)) := ((Below.refl _ _).alloc (Nat.le_refl _) _).alloc (by simp) _
  by_cases c1 : c < a
  · have hz := hide (show cmpZ A B = 1 by unfold cmpZ; rw [if_pos]; have := HA.out; have := HB.out; omega)
    go_enter Try.func86, Try.ntmps86
    go_wp2_with fail
    go_ret
    exact ⟨ret_int (by rw [hz.out]), hb2⟩
  by_cases c2 : a = c
  · subst c2
    by_cases c3 : d < b
    · have hz := hide (show cmpZ A B = 1 by unfold cmpZ; rw [if_pos]; have := HA.out; have := HB.out; omega)
      go_enter Try.func86, Try.ntmps86
      go_wp2_with fail
      go_ret
      exact ⟨ret_int (by rw [hz.out]), hb2⟩
    by_cases c4 : b = d
    · subst c4
      have hz := hide (show cmpZ A B = 0 by unfold cmpZ; rw [if_neg, if_pos] <;> (have := HA.out; have := HB.out; omega))
      go_enter Try.func86, Try.ntmps86
      go_wp2_with fail
      go_ret
      exact ⟨ret_int (by rw [hz.out]), hb2⟩
    · have hz := hide (show cmpZ A B = -1 by unfold cmpZ; rw [if_neg, if_neg] <;> (have := HA.out; have := HB.out; omega))
      have hn : (b == d) = false := by simpa using c4
      go_enter Try.func86, Try.ntmps86
      go_wp2_with fail
      go_ret
      exact ⟨ret_int (by rw [hz.out]), hb2⟩
  · have hz := hide (show cmpZ A B = -1 by unfold cmpZ; rw [if_neg, if_neg] <;> (have := HA.out; have := HB.out; omega))
    have hn : (a == c) = false := by simpa using c2
    go_enter Try.func86, Try.ntmps86
    go_wp2_with fail
    go_ret
    exact ⟨ret_int (by rw [hz.out]), hb2⟩
theorem Blk.rdh {w : World} {g : Nat} {t : TypeId} {l : List Int} (h : Blk w g t (hc l)) {B : Nat} (hB : g < B) : Rd w B 1 (some ⟨g, 0, none⟩) l.length (l.map i64v) := by
  refine ⟨by simp, fun _ => ⟨g, 0, rfl, hB, fun j hj => ?_⟩⟩
  have hj' : j < l.length := by simpa using hj
  rw [Nat.zero_add, h.cell j, hc_get, List.getElem?_eq_getElem hj']
  simp
/-- The rank's bucket: the first one up to which there are more than k. -/
def rankF (l : List Int) (K : Int) : Option Nat := if okH l = false ∨ K < 0 then none else (List.range 65).find? fun b => decide (K < (l.take (b + 1)).sum)
set_option maxHeartbeats 1000000 in
set_option maxRecDepth 100000 in
theorem rank_any (l : List Int) (K : Int) (w : World) (hl : l.length = 65) (hx : ∀ x ∈ l, -9223372036854775808 ≤ x ∧ x ≤ 9223372036854775807) :
    Calls Try.prog 48 #[.agg (hc l), .agg (wv K)] w fun e w' => e = .returned (.tuple #[.int .i64 ((rankF l K).getD 0), .bool (rankF l K).isSome]) ∧ Below w.heap.size w w' := by
  have H9 := hide hl
  have HX := hide hx
  have HV := hide (fun w => valid_any l w hl)
  have HO : Hid (okH l = l.all (fun x => decide (0 ≤ x))) := hide rfl
  have HR : Hid (rankF l K = if okH l = false ∨ K < 0 then none else (List.range 65).find? fun b => decide (K < (l.take (b + 1)).sum)) := hide rfl
  rw [← HO.out] at HV
  generalize hq : okH l = q at *
  have HQ := hide hq
  generalize hR : rankF l K = R at *
  clear hR hx hl hq
  have H1 := hide ((Blk.new w 69 (hc l)).alloc (.cells (wv K) 81))
  have H2 := hide (show Blk ((w.alloc (.cells (hc l) 69)).alloc (.cells (wv K) 81)) (w.heap.size + 1) 81 (wv K) by
    rw [← show (w.alloc (.cells (hc l) 69)).heap.size = w.heap.size + 1 by simp]; exact Blk.new _ _ _)
  have hb2 := hide (show Below w.heap.size w ((w.alloc (.cells (hc l) 69)).alloc (.cells (wv K) 81)) from ((Below.refl _ _).alloc (Nat.le_refl _) _).alloc (by simp) _)
  cases q with
  | false =>
    go_enter Try.func48, Try.ntmps48
    go_wp2_with (first
      | refine wpList_load_blk rfl 69 (.tmp 2) rfl _ rfl (hc l) _ H1.out Try.underlying69 rfl (info69l H9.out) ?_
      | (go_at_call 73; refine (HV.out _).mono ?_; rintro e w3 ⟨rfl, hb3⟩; have HB3 := hide (hb2.out.trans (hb3.mono hb2.out.size)); clear hb3))
    go_ret2
    have hR0 := HR.out
    rw [if_pos (by simp)] at hR0
    rw [hR0]
    exact ⟨rfl, HB3.out⟩
  | true =>
    by_cases hK : K < 0
    · have HC := hide (show cmpZ K 0 = -1 by unfold cmpZ; rw [if_neg, if_neg] <;> omega)
      rw [if_pos (.inr hK)] at HR
      clear hK
      go_enter Try.func48, Try.ntmps48
      go_wp2_with (first
      | refine wpList_load_blk rfl 69 (.tmp 2) rfl _ rfl (hc l) _ H1.out Try.underlying69 rfl (info69l H9.out) ?_
      | (go_at_call 73; refine (HV.out _).mono ?_; rintro e w3 ⟨rfl, hb3⟩; have H23 := H2.out.next hb3; have H13 := hide (H1.out.next hb3); have d0 := H23.cell 0; have d1 := H23.cell 1; simp only [wv, List.getElem?_toArray, List.getElem?_cons_zero, List.getElem?_cons_succ] at d0 d1; have H23' := hide H23; clear H23; have HB3 := hide (hb2.out.trans (hb3.mono hb2.out.size)); clear hb3)
      | (go_at_call 86; refine (cmp_any K 0 _).mono ?_; rintro e w4 ⟨rfl, hb4⟩; rw [HC.out]))
      go_ret2
      rw [HR.out]
      exact ⟨rfl, HB3.out.trans (hb4.mono HB3.out.size)⟩
    · obtain ⟨q0, hq0, HC'⟩ : ∃ q0 : Int, decide (q0 < 0) = false ∧ cmpZ K 0 = q0 := by
        refine ⟨_, ?_, rfl⟩
        unfold cmpZ
        split
        · rfl
        · split
          · rfl
          · omega
      have HC := hide HC'
      rw [if_neg (by simp [hK])] at HR
      have hK0 : ¬ q0 < 0 := by simpa using hq0
      clear HC' hq0 hK
      go_enter Try.func48, Try.ntmps48
      go_wp2_with (first
      | refine wpList_load_blk rfl 69 (.tmp 2) rfl _ rfl (hc l) _ H1.out Try.underlying69 rfl (info69l H9.out) ?_
      | (go_at_call 73; refine (HV.out _).mono ?_; rintro e w3 ⟨rfl, hb3⟩; have H23 := H2.out.next hb3; have H13 := hide (H1.out.next hb3); have d0 := H23.cell 0; have d1 := H23.cell 1; simp only [wv, List.getElem?_toArray, List.getElem?_cons_zero, List.getElem?_cons_succ] at d0 d1; have H23' := hide H23; clear H23; have HB3 := hide (hb2.out.trans (hb3.mono hb2.out.size)); clear hb3)
      | (go_at_call 86; refine (cmp_any K 0 _).mono ?_; rintro e w4 ⟨rfl, hb4⟩; rw [HC.out]))
      have HB4 := hide (HB3.out.trans (hb4.mono HB3.out.size))
      have H14 := hide (H13.out.next hb4)
      have H24 := hide (H23'.out.next hb4)
      clear d0 d1 HB3 H13 H23' hb4 H1 H2 hb2 HC
      go_loopw [4, 5, 6, 16] (fun _ _ _ i wr => ∃ (k : Nat), k ≤ 65 ∧ i = .int .i64 k ∧ Hid (Blk wr w.heap.size 69 (hc l)) ∧ Hid (Blk wr (w.heap.size + 1) 81 (wv K)) ∧ Hid (Below w.heap.size w wr) ∧ Hid (∀ b : Nat, b < k → ¬ K < (l.take (b + 1)).sum)) (fun _ _ _ i _ => 65 - (intOf i).toNat)
      case atStart => exact ⟨0, by omega, rfl, H14, H24, HB4, hide (fun b hb => by omega)⟩
      case round =>
        clear H14 H24 HB4
        obtain ⟨k, hk, rfl, b0, b1, hb, HK⟩ := hrel
        by_cases hk1 : k < 65
        · have hlt := b1.out.lt
          have RD := hide (show Rd wr wr.heap.size 1 (some ⟨w.heap.size, 0, none⟩) (k + 1) ((l.take (k + 1)).map i64v) from by
            have h1 := (b0.out.rdh b0.out.lt).take (k := k + 1) (by have := H9.out; omega)
            rw [Nat.mul_one, ← List.map_take] at h1
            exact h1)
          have d0 := b1.out.cell 0
          have d1 := b1.out.cell 1
          simp only [wv, List.getElem?_toArray, List.getElem?_cons_zero, List.getElem?_cons_succ] at d0 d1
          have hw1 : IntKind.i64.wrap ((k : Int) + 1) = (k : Int) + 1 := IntWalk.i64_in _ (by constructor <;> omega)
          have hw2 : 0 ≤ (k : Int) + 1 := by omega
          have hw3 : (k : Int) + 1 ≤ 65 := by omega
          have hw4 : ((k : Int) + 1).toNat = k + 1 := by omega
          go_wp2_with fail
          go_region_held3 (fun w' => w'.cell? ⟨w.heap.size + 1, 0, none⟩ = some (.int .i64 (K / 18446744073709551616)) ∧ w'.cell? ⟨w.heap.size + 1, 1, none⟩ = some (.int .u64 (K % 18446744073709551616))) (go_keep)
            (first
              | (go_at_call 85; refine (sum_any (some ⟨w.heap.size, 0, none⟩) (k + 1) 65 (l.take (k + 1)) _ (by exact RD.out) (by omega) (fun x hx => HX.out x (List.mem_of_mem_take hx))).mono ?_; rintro e w5 ⟨rfl, hb5'⟩; have hb5 : Below wr.heap.size wr w5 := ⟨hb5'.os, hb5'.tape, hb5'.output, hb5'.size, hb5'.block⟩; have d0 := (b1.out.next hb5).cell 0; have d1 := (b1.out.next hb5).cell 1; simp only [wv, List.getElem?_toArray, List.getElem?_cons_zero, List.getElem?_cons_succ] at d0 d1)
              | (go_at_call 86; refine (cmp_any K (l.take (k + 1)).sum _).mono ?_; rintro e w6 ⟨rfl, hb6'⟩; have hb6 : Below w5.heap.size w5 w6 := ⟨hb6'.os, hb6'.tape, hb6'.output, hb6'.size, hb6'.block⟩; have d0 := ((b1.out.next hb5).next hb6).cell 0; have d1 := ((b1.out.next hb5).next hb6).cell 1; simp only [wv, List.getElem?_toArray, List.getElem?_cons_zero, List.getElem?_cons_succ] at d0 d1))
          have hbw : Below w.heap.size w w6 := (hb.out.trans (hb5.mono hb.out.size)).trans (hb6.mono (by have := hb.out.size; have := hb5.size; omega))
          by_cases hT : K < (l.take (k + 1)).sum
          · have hz : cmpZ K (l.take (k + 1)).sum < 0 := by unfold cmpZ; rw [if_neg (by omega), if_neg (by omega)]; omega
            have HRk : Hid (R = some k) := hide (by
              rw [HR.out, List.find?_range_eq_some]
              exact ⟨decide_eq_true hT, List.mem_range.2 hk1, fun j hj => by simpa using HK.out j hj⟩)
            clear hT
            generalize cmpZ K (l.take (k + 1)).sum = z at hz ⊢
            go_wp2_with fail
            go_ret2
            rw [HRk.out]
            exact ⟨rfl, hbw⟩
          · have hz : ¬ cmpZ K (l.take (k + 1)).sum < 0 := by unfold cmpZ; split <;> (try split) <;> omega
            have HK2 : Hid (∀ b : Nat, b < k + 1 → ¬ K < (l.take (b + 1)).sum) := hide (fun b hb => by
              rcases Nat.lt_succ_iff_lt_or_eq.1 hb with h | h
              · have := HK.out b h; omega
              · subst h; exact hT)
            have B0 := hide ((b0.out.next hb5).next hb6)
            have B1 := hide ((b1.out.next hb5).next hb6)
            clear hT
            generalize cmpZ K (l.take (k + 1)).sum = z at hz ⊢
            go_wp2_with fail
            go_roundw
            case rel => exact ⟨k + 1, by omega, by go_num, B0, B1, hide hbw, HK2⟩
            case measure => simp [intOf]; omega
        · have HRk : Hid (R = none) := hide (by
            rw [HR.out, List.find?_eq_none]
            intro b hb
            simpa using HK.out b (by have := List.mem_range.1 hb; omega))
          go_wp2_with fail
          go_ret2
          rw [HRk.out]
          exact ⟨rfl, hb.out⟩
end Go.Proofs.Ytoammbfipinejaa
