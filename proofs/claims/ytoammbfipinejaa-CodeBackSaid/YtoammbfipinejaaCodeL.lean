/- told. -/
import Derived.Test.YtoammbfipinejaaCodeK
import Derived.Test.YtoammbfipinejaaCodeBackPlain
namespace Go.Proofs.Ytoammbfipinejaa
open Go.RowKit
set_option linter.unusedVariables false
set_option linter.unusedSimpArgs false

theorem fold_snoc {α : Type} {σ : Type} (st : σ → α → σ) (l : List α) (k : Nat) (x : α) (s : σ) (h : l[k]? = some x) : (l.take (k + 1)).foldl st s = st ((l.take k).foldl st s) x := by
  rw [List.take_add_one, h, List.foldl_append]; rfl
theorem eqN (U x : Nat) : Value.bool ((U : Int) == (x : Int)) = Value.bool (true && decide (U = x)) := by
  rw [Bool.true_and]
  congr 1
  rw [Bool.eq_iff_iff, beq_iff_eq, decide_eq_true_eq]
  omega
theorem eqZ (U x : Int) : Value.bool (U == x) = Value.bool (true && decide (U = x)) := by
  rw [Bool.true_and]
  rfl
theorem eqT (U : List UInt8) (x : ByteArray) : Value.bool (U == x.toList) = Value.bool (true && decide (U = x.data.toList)) := by
  have h : x.toList = x.data.toList := ByteArray.toList_eq x
  rw [Bool.true_and, h]
  congr 1
  rw [Bool.eq_iff_iff, beq_iff_eq, decide_eq_true_eq]
set_option maxRecDepth 100000 in
theorem told_any (A B C : Option Addr) (n m p cn cm cp g : Nat) (L : List UInt8) (a : List Nat) (b : List Int) (c : List ByteArray) (w : World) {B0 : Nat} (hB0 : B0 ≤ g)
    (ha : Rd w B0 1 A n (a.map u64v)) (hb : Rd w B0 1 B m (b.map i64v)) (hc : Rd w B0 1 C p (c.map strv)) (hr : Rdr w g L 0) 
    (na : n ≤ 100) (nb : m ≤ 100) (nc : p ≤ 100) :
    Calls Try.prog 31 #[.pointer (some ⟨g, 0, none⟩), .slice A n cn, .slice B m cm, .slice C p cp] w fun e w' => e = .returned (.bool (toldB (stAll L a b c))) ∧ (∃ l' e', Rdr w' g l' e' ∧ e' = endE (stAll L a b c).2.1 (stAll L a b c).2.2) ∧ w.grownBy w' (some g) := by
  have HNA := hide ha.len
  have HNB := hide hb.len
  have HNC := hide hc.len
  obtain ⟨sA, hA⟩ : ∃ sA : St, sA = stAll L a b c := ⟨_, rfl⟩
  rw [← hA]
  have HA := hide hA
  clear hA
  go_enter Try.func31, Try.ntmps31
  go_wp2_with fail
  go_loopw [9, 10] (fun o i wr => ∃ (k : Nat) (s : St), k ≤ n ∧ i = .int .i64 k ∧ o = .bool s.1 ∧ Rdr wr g s.2.1 s.2.2 ∧ Hid (s = (a.take k).foldl stU (true, L, 0)) ∧ Below g w wr ∧ w.grownBy wr (some g)) (fun _ i _ => n - (intOf i).toNat)
  case atStart => exact ⟨0, (true, L, 0), Nat.zero_le _, rfl, rfl, hr, hide rfl, Below.refl _ _, World.grownBy.refl _ _⟩
  case round =>
    obtain ⟨k, ⟨o, l, e⟩, hk, rfl, rfl, hr, HS, hbl, hgr⟩ := hrel
    by_cases hk1 : k < n
    · obtain ⟨ba, off, rfl, hbb, x, hx, hcell⟩ := ha.get hk1
      have hc' := (hbl.cell (p := ⟨ba, off + k, none⟩) (Nat.lt_of_lt_of_le hbb hB0)).trans hcell
      unfold u64v at hc'
      have HX := hide hx
      clear hx hcell
      go_wp2_with fail
      refine (uint_any g e l _ hr).mono ?_
      rintro e1 w2 ⟨rfl, hr2, hg2⟩
      have hbl2 := hbl.grown hg2 (Nat.le_of_lt hr.lt) (fun q hq => by cases hq; exact Nat.le_refl _)
      have hgr2 := grown_trans hgr hg2
      have hc2 := (hbl2.cell (p := ⟨ba, off + k, none⟩) (Nat.lt_of_lt_of_le hbb hB0)).trans ((hbl.cell (p := ⟨ba, off + k, none⟩) (Nat.lt_of_lt_of_le hbb hB0)).symm.trans hc')
      clear hc' hbl hgr hg2 hr
      have hss := fold_snoc stU a k x (true, L, 0) HX.out
      rw [← HS.out] at hss
      have HSS := hide hss.symm
      clear hss
      simp only [stU] at HSS
      generalize uV l e = U at *
      cases o with
      | true =>
        go_wp2_with fail
        go_roundw
        case rel => exact ⟨k + 1, _, by omega, by go_num, eqN U x, hr2, HSS, hbl2, hgr2⟩
        case measure => simp [intOf]; omega
      | false =>
        go_wp2_with fail
        go_roundw
        case rel => exact ⟨k + 1, _, by omega, by go_num, rfl, hr2, HSS, hbl2, hgr2⟩
        case measure => simp [intOf]; omega
    · have htk : a.take k = a := List.take_of_length_le (by have := HNA.out; omega)
      have hs := HS.out
      rw [htk] at hs
      have HS10 := hide hs
      clear hs htk HS
      obtain ⟨s1, hs1⟩ : ∃ s1 : St, s1 = (o, l, e) := ⟨_, rfl⟩
      rw [← hs1] at HS10
      obtain ⟨rfl, rfl, rfl⟩ : o = s1.1 ∧ l = s1.2.1 ∧ e = s1.2.2 := by subst hs1; exact ⟨rfl, rfl, rfl⟩
      clear hs1
      go_wp2_with fail
      go_loopw [9, 12] (fun o i wr => ∃ (k : Nat) (s : St), k ≤ m ∧ i = .int .i64 k ∧ o = .bool s.1 ∧ Rdr wr g s.2.1 s.2.2 ∧ Hid (s = (b.take k).foldl stI s1) ∧ Below g w wr ∧ w.grownBy wr (some g)) (fun _ i _ => m - (intOf i).toNat)
      case atStart => exact ⟨0, s1, Nat.zero_le _, rfl, rfl, hr, hide rfl, hbl, hgr⟩
      case round =>
        clear hr hbl hgr
        obtain ⟨k, ⟨o, l, e⟩, hk, rfl, rfl, hr, HS, hbl, hgr⟩ := hrel
        by_cases hk1 : k < m
        · obtain ⟨ba, off, rfl, hbb, x, hx, hcell⟩ := hb.get hk1
          have hc' := (hbl.cell (p := ⟨ba, off + k, none⟩) (Nat.lt_of_lt_of_le hbb hB0)).trans hcell
          unfold i64v at hc'
          have HX := hide hx
          clear hx hcell
          go_wp2_with fail
          refine (int_any g e l _ hr).mono ?_
          rintro e1 w2 ⟨rfl, hr2, hg2⟩
          have hbl2 := hbl.grown hg2 (Nat.le_of_lt hr.lt) (fun q hq => by cases hq; exact Nat.le_refl _)
          have hgr2 := grown_trans hgr hg2
          have hc2 := (hbl2.cell (p := ⟨ba, off + k, none⟩) (Nat.lt_of_lt_of_le hbb hB0)).trans ((hbl.cell (p := ⟨ba, off + k, none⟩) (Nat.lt_of_lt_of_le hbb hB0)).symm.trans hc')
          clear hc' hbl hgr hg2 hr
          have hss := fold_snoc stI b k x s1 HX.out
          rw [← HS.out] at hss
          have HSS := hide hss.symm
          clear hss
          simp only [stI] at HSS
          generalize uV l e = U at *
          cases o with
          | true =>
            go_wp2_with fail
            go_roundw
            case rel => exact ⟨k + 1, _, by omega, by go_num, eqZ (unturnZ U) x, hr2, HSS, hbl2, hgr2⟩
            case measure => simp [intOf]; omega
          | false =>
            go_wp2_with fail
            go_roundw
            case rel => exact ⟨k + 1, _, by omega, by go_num, rfl, hr2, HSS, hbl2, hgr2⟩
            case measure => simp [intOf]; omega
        · have htk : b.take k = b := List.take_of_length_le (by have := HNB.out; omega)
          have hs := HS.out
          rw [htk] at hs
          have HS12 := hide hs
          clear hs htk HS
          obtain ⟨s2, hs2⟩ : ∃ s2 : St, s2 = (o, l, e) := ⟨_, rfl⟩
          rw [← hs2] at HS12
          obtain ⟨rfl, rfl, rfl⟩ : o = s2.1 ∧ l = s2.2.1 ∧ e = s2.2.2 := by subst hs2; exact ⟨rfl, rfl, rfl⟩
          clear hs2
          go_wp2_with fail
          go_loopw [9, 14] (fun o i wr => ∃ (k : Nat) (s : St), k ≤ p ∧ i = .int .i64 k ∧ o = .bool s.1 ∧ Rdr wr g s.2.1 s.2.2 ∧ Hid (s = (c.take k).foldl stT s2) ∧ Below g w wr ∧ w.grownBy wr (some g)) (fun _ i _ => p - (intOf i).toNat)
          case atStart => exact ⟨0, s2, Nat.zero_le _, rfl, rfl, hr, hide rfl, hbl, hgr⟩
          case round =>
            clear hr hbl hgr
            obtain ⟨k, ⟨o, l, e⟩, hk, rfl, rfl, hr, HS, hbl, hgr⟩ := hrel
            by_cases hk1 : k < p
            · obtain ⟨ba, off, rfl, hbb, x, hx, hcell⟩ := hc.get hk1
              have hc' := (hbl.cell (p := ⟨ba, off + k, none⟩) (Nat.lt_of_lt_of_le hbb hB0)).trans hcell
              unfold strv at hc'
              have HX := hide hx
              clear hx hcell
              go_wp2_with fail
              refine (text_any g e l 300 _ hr (by omega)).mono ?_
              rintro e1 w2 ⟨rfl, hr2, hg2⟩
              have hbl2 := hbl.grown hg2 (Nat.le_of_lt hr.lt) (fun q hq => by cases hq; exact Nat.le_refl _)
              have hgr2 := grown_trans hgr hg2
              have hc2 := (hbl2.cell (p := ⟨ba, off + k, none⟩) (Nat.lt_of_lt_of_le hbb hB0)).trans ((hbl.cell (p := ⟨ba, off + k, none⟩) (Nat.lt_of_lt_of_le hbb hB0)).symm.trans hc')
              clear hc' hbl hgr hg2 hr
              have hss := fold_snoc stT c k x s2 HX.out
              rw [← HS.out] at hss
              have HSS := hide hss.symm
              clear hss
              simp only [stT] at HSS
              generalize tV l e 300 = U at *
              cases o with
              | true =>
                go_wp2_with fail
                go_roundw
                case rel => exact ⟨k + 1, _, by omega, by go_num, eqT U x, hr2, HSS, hbl2, hgr2⟩
                case measure => simp [intOf]; omega
              | false =>
                go_wp2_with fail
                go_roundw
                case rel => exact ⟨k + 1, _, by omega, by go_num, rfl, hr2, HSS, hbl2, hgr2⟩
                case measure => simp [intOf]; omega
            · have htk : c.take k = c := List.take_of_length_le (by have := HNC.out; omega)
              have hs := HS.out
              rw [htk] at hs
              have HS14 := hide hs
              clear hs htk HS
              obtain ⟨s3, hs3⟩ : ∃ s3 : St, s3 = (o, l, e) := ⟨_, rfl⟩
              rw [← hs3] at HS14
              subst hs3
              have HS := hide (show sA = (o, l, e) by have h1 := HS10.out; have h2 := HS12.out; have h3 := HS14.out; rw [HA.out]; subst h1; subst h2; exact h3.symm)
              clear HA HS10 HS12 HS14
              have HE := hide (end_any g e l wr hr)
              have HV := hide (show endE l e = endE sA.2.1 sA.2.2 by rw [HS.out])
              have HT := hide (show toldB sA = (decide (endE l e = 0) && o && decide (l = [])) by rw [HS.out]; rfl)
              generalize endE l e = E at *
              cases o with
              | true =>
                by_cases hE : E = 0
                · subst hE
                  go_wp2_with fail
                  refine HE.out.mono ?_
                  rintro e1 w2 ⟨rfl, hr2, hg2⟩
                  go_wp2_with fail
                  refine (left_any g 0 l _ hr2).mono ?_
                  rintro e1 w3 ⟨rfl, rfl⟩
                  go_wp2_with fail
                  go_ret
                  exact ⟨ret_bool (by rw [HT.out]; rw [Bool.eq_iff_iff, beq_iff_eq]; simp), ⟨_, _, hr2, HV.out⟩, grown_trans hgr hg2⟩
                · go_wp2_with fail
                  refine HE.out.mono ?_
                  rintro e1 w2 ⟨rfl, hr2, hg2⟩
                  go_wp2_with fail
                  go_ret
                  exact ⟨ret_bool (by rw [HT.out]; simp [hE]), ⟨_, _, hr2, HV.out⟩, grown_trans hgr hg2⟩
              | false =>
                by_cases hE : E = 0
                · subst hE
                  go_wp2_with fail
                  refine HE.out.mono ?_
                  rintro e1 w2 ⟨rfl, hr2, hg2⟩
                  go_wp2_with fail
                  go_ret
                  exact ⟨ret_bool (by rw [HT.out]; simp), ⟨_, _, hr2, HV.out⟩, grown_trans hgr hg2⟩
                · go_wp2_with fail
                  refine HE.out.mono ?_
                  rintro e1 w2 ⟨rfl, hr2, hg2⟩
                  go_wp2_with fail
                  go_ret
                  exact ⟨ret_bool (by rw [HT.out]; simp), ⟨_, _, hr2, HV.out⟩, grown_trans hgr hg2⟩
end Go.Proofs.Ytoammbfipinejaa
