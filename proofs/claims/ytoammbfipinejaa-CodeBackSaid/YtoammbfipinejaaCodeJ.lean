/- CodeWrites: the walk. -/
import Derived.Test.YtoammbfipinejaaCodeI
namespace Go.Proofs.Ytoammbfipinejaa
open Go.RowKit
set_option linter.unusedVariables false
set_option linter.unusedSimpArgs false

set_option maxHeartbeats 2000000 in
set_option maxRecDepth 100000 in
theorem writes_walk (A B C : Option Addr) (n m p cn cm cp : Nat) (a : List Nat) (b : List Int) (c : List ByteArray) (w : World)
    (ha : Rd w w.heap.size 1 A n (a.map u64v)) (hb : Rd w w.heap.size 1 B m (b.map i64v)) (hc : Rd w w.heap.size 1 C p (c.map strv))
    (na : n ≤ 140737488351232) (nb : m ≤ 140737488351232) (nc : p ≤ 140737488351232)
    (la : ∀ x ∈ a, x < 18446744073709551616) (lb : ∀ x ∈ b, -9223372036854775808 ≤ x ∧ x ≤ 9223372036854775807) (lc : ∀ x ∈ c, x.size ≤ 140737488351232) :
    Calls Try.prog 4 #[.slice A n cn, .slice B m cm, .slice C p cp] w fun e w' => e = .returned (.bool true) ∧ Below w.heap.size w w' := by
  obtain ⟨i0, hi0, hz0, hz1, hz2⟩ := info_parts Try.info8
  have HNA := hide ha.len
  have HNB := hide hb.len
  have HNC := hide hc.len
  have HLA := hide la
  have HLB := hide lb
  have HLC := hide lc
  clear la lb lc
  by_cases hg : 200 < n + m + p
  · go_enter Try.func4, Try.ntmps4
    go_wp2_with fail
    refine (alive_any _).mono ?_
    rintro e w1 ⟨rfl, hb1⟩
    go_wp2_with fail
    go_ret
    exact ⟨rfl, hb1⟩
  go_enter Try.func4, Try.ntmps4
  go_wp2_with fail
  refine (alive_any _).mono ?_
  rintro e w1 ⟨rfl, B1⟩
  go_wp2_with fail
  go_loopw [6, 7, 8] (fun _ v i wr => ∃ k q : Nat, k ≤ n ∧ i = .int .i64 k ∧ q ≤ 10 * k ∧ Ow wr w1.heap.size 5 1 v q ((encs (a.take k)).map bv) ∧ Below w1.heap.size w1 wr) (fun _ _ i _ => n - (intOf i).toNat)
  case atStart => exact ⟨0, 0, Nat.zero_le _, rfl, by omega, Ow.lit w1 #[] 0 (Nat.le_refl _) (by simp [maxLen]) rfl, (Below.refl _ _).alloc (Nat.le_refl _) _⟩
  case round =>
    obtain ⟨k, q, hk, rfl, hq, own, hbl⟩ := hrel
    by_cases hk1 : k < n
    · obtain ⟨ba, off, rfl, hbb, x, hx, hcell⟩ := ha.get hk1
      have hB := B1.trans (hbl.mono B1.size)
      have hc' := (hB.cell (p := ⟨ba, off + k, none⟩) hbb).trans hcell
      unfold u64v at hc'
      have HX := hide hx
      have HXL := hide (HLA.out x (List.mem_of_getElem? hx))
      have hel := (encF_len 9 x).2
      have HEL := hide (show (enc x).length ≤ 10 from hel)
      have HUT := hide (fun w => unturn_any x w HXL.out)
      have HRUT := hide (fun w => refUnturn_any x w HXL.out)
      have HZ := hide (unturnZ_bounds x HXL.out)
      have HTU := hide (fun w => turn_any (unturnZ x) w HZ.out.1 HZ.out.2)
      rw [turn_unturn] at HTU
      generalize unturnZ x = z at HUT HRUT HTU
      clear hx hcell hel
      go_wp2_with fail
      refine (refUint_any x _ HXL.out).mono ?_
      rintro e w2 ⟨v2, rfl, own2, hb2⟩
      have own1 := own.next hb2
      have hbl2 := hbl.trans (hb2.mono hbl.size)
      obtain ⟨A2, c2, rfl, _, _, r2⟩ := own2.form
      have hB2 := hB.trans (hb2.mono hB.size)
      clear own hbl hB hb2
      go_wp2_with (at_builtin; refine wpList_append_ow _ rfl (.tmp 31) (.tmp 36) _ rfl w1.heap.size 5 i0 _ 1 1 Try.underlying46 hi0 hz0 hz1 hz2 rfl (by omega) _ q _ rfl own1 w2.heap.size A2 (enc x).length c2 _ rfl r2 (bvs_one _) (by have := HEL.out; simp only [maxLen]; omega) (by have := HEL.out; omega) hbl2.size ?_; intro v3 w3 own3 hg3 hat3 hnn3)
      have hbl3 := hbl2.grown hg3 hbl2.size (fun g hg => own1.lt g hg)
      have hB3 := B1.trans (hbl3.mono B1.size)
      have hc3 := (hB3.cell (p := ⟨ba, off + k, none⟩) hbb)
      have hc4 : w3.cell? ⟨ba, off + k, none⟩ = some (.int .u64 x) := by
        obtain ⟨_, _, e, _, y, hy, hcy⟩ := ha.get hk1
        injection e with e
        injection e with e1 e2
        subst e1; subst e2
        rw [HX.out] at hy
        injection hy with hy
        subst hy
        exact hc3.trans hcy
      clear hc3 hc' own1 own2 r2 hB2 hbl2
      go_wp2_with fail
      go_quiet ((first | (go_at_call 21; first | exact quiet_left (HUT.out _) | exact quiet_add_left (HUT.out _)) | (go_at_call 22; first | exact quiet_left (HRUT.out _) | exact quiet_add_left (HRUT.out _)) | (go_at_call 23; first | exact quiet_left (HTU.out _) | exact quiet_add_left (HTU.out _))))
      go_wp2_with fail
      go_roundw
      case rel => exact ⟨k + 1, q + (enc x).length, by omega, by go_num, by have := HEL.out; omega, by rw [encs_snoc a k x HX.out, List.map_append]; exact own3.drewN _, below_drewN hbl3 _⟩
      case measure => simp [intOf]; omega
    · have htk : a.take k = a := List.take_of_length_le (by have := HNA.out; omega)
      rw [htk] at own
      have hq : q = (encs a).length := by have := own.1; simpa using this.symm
      subst hq
      have hq10 := hq
      obtain ⟨AX, cx, rfl, _, hmx, rx⟩ := own.form
      have B2 := B1.trans (hbl.mono B1.size)
      clear htk own hbl
      go_wp2_with fail
      obtain ⟨wo, rfl⟩ : ∃ wo : World, wo = wr := ⟨_, rfl⟩
      go_loopw [6, 9, 10] (fun _ v i wr => ∃ k q : Nat, k ≤ m ∧ i = .int .i64 k ∧ q ≤ 10 * k ∧ Ow wr wo.heap.size 5 1 v q ((encs ((b.map turnN).take k)).map bv) ∧ Below wo.heap.size wo wr) (fun _ _ i _ => m - (intOf i).toNat)
      case atStart => exact ⟨0, 0, Nat.zero_le _, rfl, by omega, Ow.lit wo #[] 0 (Nat.le_refl _) (by simp [maxLen]) rfl, (Below.refl _ _).alloc (Nat.le_refl _) _⟩
      case round =>
        obtain ⟨k, q, hk, rfl, hq, own, hbl⟩ := hrel
        by_cases hk1 : k < m
        · obtain ⟨ba, off, rfl, hbb, x, hx, hcell⟩ := hb.get hk1
          have hB := B2.trans (hbl.mono B2.size)
          have hc' := (hB.cell (p := ⟨ba, off + k, none⟩) hbb).trans hcell
          unfold i64v at hc'
          have HX := hide hx
          have HXL := hide (HLB.out x (List.mem_of_getElem? hx))
          have HEL := hide (show (enc (turnN x)).length ≤ 10 from (encF_len 9 (turnN x)).2)
          have HT := hide (fun w => turn_any x w HXL.out.1 HXL.out.2)
          have HRT := hide (fun w => refTurn_any x w HXL.out.1 HXL.out.2)
          clear hx hcell
          go_wp2_with fail
          refine (refInt_any x _ HXL.out.1 HXL.out.2).mono ?_
          rintro e w2 ⟨v2, rfl, own2, hb2⟩
          have own1 := own.next hb2
          have hbl2 := hbl.trans (hb2.mono hbl.size)
          obtain ⟨A2, c2, rfl, _, _, r2⟩ := own2.form
          have hc2 := (hb2.cell (p := ⟨ba, off + k, none⟩) (Nat.lt_of_lt_of_le hbb hB.size)).trans hc'
          clear own hbl hc' own2
          go_wp2_with (at_builtin; refine wpList_append_ow _ rfl (.tmp 69) (.tmp 74) _ rfl wo.heap.size 5 i0 _ 1 1 Try.underlying46 hi0 hz0 hz1 hz2 rfl (by omega) _ q _ rfl own1 w2.heap.size A2 (enc (turnN x)).length c2 _ rfl r2 (bvs_one _) (by have := HEL.out; simp only [maxLen]; omega) (by have := HEL.out; omega) hbl2.size ?_; intro v3 w3 own3 hg3 hat3 hnn3)
          have hbl3 := hbl2.grown hg3 hbl2.size (fun g hg => own1.lt g hg)
          have hB3 := B2.trans (hbl3.mono B2.size)
          have hc4 : w3.cell? ⟨ba, off + k, none⟩ = some (.int .i64 x) := by
            have h1 := (hB3.cell (p := ⟨ba, off + k, none⟩) hbb)
            have h2 := (hB.cell (p := ⟨ba, off + k, none⟩) hbb)
            have h3 := (hb2.cell (p := ⟨ba, off + k, none⟩) (Nat.lt_of_lt_of_le hbb hB.size))
            rw [h1, ← h2, ← h3]; exact hc2
          clear hc2 own1 r2 hbl2 hB hb2
          go_wp2_with fail
          go_quiet ((first | (go_at_call 23; first | exact quiet_left (HT.out _) | exact quiet_add_left (HT.out _)) | (go_at_call 25; first | exact quiet_left (HRT.out _) | exact quiet_add_left (HRT.out _))))
          go_wp2_with fail
          go_roundw
          case rel => exact ⟨k + 1, q + (enc (turnN x)).length, by omega, by go_num, by have := HEL.out; omega, by rw [encs_snoc (b.map turnN) k (turnN x) (by rw [List.getElem?_map, HX.out]; rfl), List.map_append]; exact own3.drewN _, below_drewN hbl3 _⟩
          case measure => simp [intOf]; omega
        · have htk : (b.map turnN).take k = b.map turnN := List.take_of_length_le (by have := HNB.out; simp; omega)
          rw [htk] at own
          have hq : q = (encs (b.map turnN)).length := by have := own.1; simpa using this.symm
          subst hq
          obtain ⟨AY, cy, rfl, _, hmy, ry⟩ := own.form
          have B3 := B2.trans (hbl.mono B2.size)
          have rx2 := Rd.next rx hbl
          clear htk own hbl rx B2
          go_wp2_with fail
          obtain ⟨wp, rfl⟩ : ∃ wp : World, wp = wr := ⟨_, rfl⟩
          go_loopw [6, 11, 12] (fun _ v i wr => ∃ k q : Nat, k ≤ p ∧ i = .int .i64 k ∧ q ≤ 1010 * k ∧ Ow wr wp.heap.size 5 1 v q ((encTs (c.take k)).map bv) ∧ Below wp.heap.size wp wr ∧ Hid (∀ j x, j < k → c[j]? = some x → x.size ≤ 1000)) (fun _ _ i _ => p - (intOf i).toNat)
          case atStart => exact ⟨0, 0, Nat.zero_le _, rfl, by omega, Ow.lit wp #[] 0 (Nat.le_refl _) (by simp [maxLen]) rfl, (Below.refl _ _).alloc (Nat.le_refl _) _, hide (fun j x hj => by omega)⟩
          case round =>
            obtain ⟨k, q, hk, rfl, hq, own, hbl, HJ⟩ := hrel
            by_cases hk1 : k < p
            · obtain ⟨ba, off, rfl, hbb, x, hx, hcell⟩ := hc.get hk1
              have hB := B3.trans (hbl.mono B3.size)
              have hc' := (hB.cell (p := ⟨ba, off + k, none⟩) hbb).trans hcell
              unfold strv at hc'
              have HX := hide hx
              have hxl := HLC.out x (List.mem_of_getElem? hx)
              clear hx hcell
              by_cases hbig : 1000 < x.size
              · go_wp2_with fail
                go_ret
                exact ⟨rfl, hB⟩
              · have HEL := hide (encT_len x)
                go_wp2_with fail
                refine (refText_any x _ (by omega)).mono ?_
                rintro e w2 ⟨v2, rfl, own2, hb2⟩
                have own1 := own.next hb2
                have hbl2 := hbl.trans (hb2.mono hbl.size)
                obtain ⟨A2, c2, rfl, _, _, r2⟩ := own2.form
                clear own hbl hc' own2 hB
                go_wp2_with (at_builtin; refine wpList_append_ow _ rfl (.tmp 100) (.tmp 105) _ rfl wp.heap.size 5 i0 _ 1 1 Try.underlying46 hi0 hz0 hz1 hz2 rfl (by omega) _ q _ rfl own1 w2.heap.size A2 (encT x).length c2 _ rfl r2 (bvs_one _) (by have := HEL.out; simp only [maxLen]; omega) (by have := HEL.out; omega) hbl2.size ?_; intro v3 w3 own3 hg3 hat3 hnn3)
                have hbl3 := hbl2.grown hg3 hbl2.size (fun g hg => own1.lt g hg)
                go_roundw
                case rel =>
                  refine ⟨k + 1, q + (encT x).length, by omega, by go_num, by have := HEL.out; omega, by rw [encTs_snoc c k x HX.out, List.map_append]; exact own3, hbl3, hide (fun j y hj hy => ?_)⟩
                  rcases Nat.lt_succ_iff_lt_or_eq.1 hj with h | h
                  · exact HJ.out j y h hy
                  · subst h
                    rw [HX.out] at hy
                    injection hy with hy
                    subst hy
                    omega
                case measure => simp [intOf]; omega
            · have htk : c.take k = c := List.take_of_length_le (by have := HNC.out; omega)
              rw [htk] at own
              have hq : q = (encTs c).length := by have := own.1; simpa using this.symm
              subst hq
              have HCL := hide (show ∀ x ∈ c, x.size ≤ 65536 from by
                intro x hx
                obtain ⟨j, hj, he⟩ := List.getElem_of_mem hx
                have := HJ.out j x (by have := HNC.out; omega) (by rw [List.getElem?_eq_getElem hj, he])
                omega)
              obtain ⟨AZ, cz, rfl, _, hmz, rz⟩ := own.form
              have B4 := B3.trans (hbl.mono B3.size)
              have ry2 := Rd.next ry hbl
              have rx3 := Rd.next rx2 hbl
              clear htk own hbl rx2 ry B3 HJ
              go_wp2_with fail
              refine (uints_any A n cn a _ ((ha.below B4).more B4.size) (by omega) HLA.out).mono ?_
              rintro e w5 ⟨v5, rfl, own5, hb5⟩
              have B5 := B4.trans (hb5.mono B4.size)
              have rx5 := Rd.next rx3 hb5
              have ry5 := Rd.next ry2 hb5
              have rz5 := Rd.next rz hb5
              obtain ⟨A5, c5, rfl, _, hm5, r5⟩ := own5.form
              clear rx3 ry2 rz own5 B4 hb5
              go_wp2_with fail
              refine (sameBytes_any A5 AX _ _ _ _ _ _ _ r5 rx5 (by have := encs_len a; have := HNA.out; simp only [maxLen]; omega)).mono ?_
              rintro e w6 ⟨rfl, nq, rfl⟩
              rw [decide_eq_true rfl]
              have B6 := below_drewN B5 nq
              have ry6 := ry5.drewN' nq
              have rz6 := rz5.drewN' nq
              clear rx5 r5 B5 ry5 rz5
              generalize w5.drewN nq = w6 at B6 ry6 rz6 ⊢
              go_wp2_with fail
              refine (ints_any B m cm b w6 ((hb.below B6).more B6.size) (by omega) HLB.out).mono ?_
              rintro e w7 ⟨v7, rfl, own7, hb7⟩
              have B7 := B6.trans (hb7.mono B6.size)
              have ry7 := Rd.next ry6 hb7
              have rz7 := Rd.next rz6 hb7
              obtain ⟨A7, c7, rfl, _, hm7, r7⟩ := own7.form
              clear ry6 rz6 own7 B6 hb7
              go_wp2_with fail
              refine (sameBytes_any A7 AY _ _ _ _ _ _ _ r7 ry7 (by have := encs_len (b.map turnN); have := HNB.out; simp only [maxLen, List.length_map] at *; omega)).mono ?_
              rintro e w8 ⟨rfl, nq2, rfl⟩
              rw [decide_eq_true rfl]
              have B8 := below_drewN B7 nq2
              have rz8 := rz7.drewN' nq2
              clear ry7 r7 B7 rz7
              generalize w7.drewN nq2 = w8 at B8 rz8 ⊢
              go_wp2_with fail
              refine (texts_any C p cp 0 c w8 ((hc.below B8).more B8.size) (by omega) HCL.out).mono ?_
              rintro e w9 ⟨v9, rfl, own9, hb9⟩
              have B9 := B8.trans (hb9.mono B8.size)
              have rz9 := Rd.next rz8 hb9
              obtain ⟨A9, c9, rfl, _, hm9, r9⟩ := own9.form
              clear rz8 own9 B8 hb9
              go_wp2_with fail
              refine (sameBytes_any A9 AZ _ _ _ _ _ _ _ r9 rz9 (by simp only [maxLen]; omega)).mono ?_
              rintro e w10 ⟨rfl, nq3, rfl⟩
              rw [decide_eq_true rfl]
              go_wp2_with fail
              go_ret
              exact ⟨rfl, below_drewN B9 _⟩
end Go.Proofs.Ytoammbfipinejaa
