/- The document's Open. -/
import Derived.Test.YtlliffbhkagodaaCrcD
namespace Go.Proofs.Ytlliffbhkagodaa
open Go.RowKit
set_option linter.unusedVariables false

theorem drop_eq_of {l t : List UInt8} {m : Nat} (hl : l.length = m + t.length) (h : ∀ j (hj : j < t.length), l[m + j]? = some t[j]) : l.drop m = t := by
  apply List.ext_getElem (by rw [List.length_drop]; omega)
  intro j h1 h2
  rw [List.getElem_drop]
  have := h j h2
  rw [List.getElem?_eq_getElem (by omega)] at this
  injection this

theorem refOpen_any (A : Option Addr) (n c : Nat) (l : List UInt8) (w : World) (hr : RdB w w.heap.size A n l) (hc : n ≤ c) (hcm : c ≤ maxLen) (hn : n ≤ 70368744175616) :
    Calls Try.prog 11 #[.slice A n c] w fun e w' => ∃ v, e = .returned (.tuple #[v, .int .i64 (openErr l)]) ∧ Ow w' w.heap.size 5 1 v (openBody l).length ((openBody l).map bv) ∧ Below w.heap.size w w' := by
  have hlen := RdB.len hr
  unfold maxLen at hcm
  by_cases h4 : n < 4
  · have e1 : openErr l = 15 := by unfold openErr; rw [if_pos (by omega)]
    have e2 : openBody l = [] := by unfold openBody openOk; rw [if_neg (by simp; omega)]
    rw [e1, e2]
    go_enter Try.func11, Try.ntmps11
    go_wp2
    go_ret2
    exact ⟨_, rfl, Ow.nil _ _ _ _, Below.refl _ _⟩
  · obtain ⟨m, rfl⟩ : ∃ m, n = m + 4 := ⟨n - 4, by omega⟩
    have hl : l.length = m + 4 := by omega
    have hsub : m + 4 - 4 = m := by omega
    have hok : openOk l = decide (l.drop m = le4 (sumN (l.take m))) := by
      unfold openOk
      rw [hl, hsub]
      simp
    have hrm : RdB w w.heap.size A m (l.take m) := by
      have := hr.take (k := m) (by omega)
      rwa [Nat.mul_one, ← List.map_take] at this
    have herr : openErr l = if openOk l then 0 else 14 := by unfold openErr; rw [if_neg (by omega)]
    have hbody : openBody l = if openOk l then l.take m else [] := by unfold openBody; rw [hl, hsub]
    have HOK := hide hok
    have HERR := hide herr
    have HBODY := hide hbody
    have HL := hide hl
    have HLEN := hide hlen
    clear hsub hok herr hbody hl hlen
    have hlm : (l.take m).length = m := by rw [List.length_take, HL.out]; omega
    have HLM := hide hlm
    clear hlm
    obtain ⟨b, off, rfl, _⟩ := hr.at_ (k := 0) (by omega)
    go_enter Try.func11, Try.ntmps11
    go_wp2_with fail
    refine (refSeal_any _ m c (l.take m) _ hrm (by omega)).mono ?_
    rintro e w1 ⟨v1, rfl, hown1, hb1⟩
    obtain ⟨g, og, cg, rfl, hg, _⟩ := hown1.open_ (by omega)
    have hrs := hown1.rd
    have hcg := hown1.caps
    have hr1 := hr.below hb1
    have hcg2 := hcg.2
    unfold maxLen at hcg2
    have hcg1 := hcg.1
    go_wp2_with fail
    go_loopw [2, 3, 6] (fun _ _ i wr => ∃ k : Nat, k ≤ 4 ∧ i = .int .i64 (m + k : Nat) ∧ (∃ q, wr = w1.drewN q) ∧ Hid (∀ j, j < k → l[m + j]? = (le4 (sumN (l.take m)))[j]?)) (fun _ _ i _ => m + 4 - (intOf i).toNat)
    case atStart => exact ⟨0, by omega, by go_num, ⟨0, rfl⟩, hide (fun j hj => by omega)⟩
    case round =>
      obtain ⟨k, hk, rfl, ⟨q, rfl⟩, HK⟩ := hrel
      have c4 : ((m + k : Nat) : Int) = (m : Int) + (k : Int) := by omega
      rw [c4]
      clear c4
      by_cases hk4 : k < 4
      · have hlk : m + k < l.length := by rw [HL.out]; omega
        obtain ⟨_, _, e1, _, hcs⟩ := RdB.cell hrs (k := m + k) (by omega)
        injection e1 with e1
        injection e1 with e1 e2
        subst e1; subst e2
        obtain ⟨_, _, e1, _, hcb⟩ := RdB.cell hr1 (k := m + k) (by omega)
        injection e1 with e1
        injection e1 with e1 e2
        subst e1; subst e2
        have hsel : ((l.take m ++ le4 (sumN (l.take m)))[m + k]'(by rw [List.length_append, HLM.out]; simp [le4]; omega)) = (le4 (sumN (l.take m)))[k]'(by simp [le4]; omega) := by
          rw [List.getElem_append_right (by rw [HLM.out]; omega)]
          congr 1
          rw [HLM.out]; omega
        rw [hsel] at hcs
        have hk5 : k < (le4 (sumN (l.take m))).length := by simp [le4]; omega
        have HS := hide hsel
        clear hsel
        have hgz : (le4 (sumN (l.take m)))[k]? = some ((le4 (sumN (l.take m)))[k]) := List.getElem?_eq_getElem hk5
        have hgl : l[m + k]? = some l[m + k] := List.getElem?_eq_getElem hlk
        have hiff : l[m + k]? = (le4 (sumN (l.take m)))[k]? ↔ l[m + k] = (le4 (sumN (l.take m)))[k] := by rw [hgz, hgl]; simp
        have HIFF := hide hiff
        clear hiff hgz hgl
        generalize (le4 (sumN (l.take m)))[k] = y at hcs HIFF
        generalize l[m + k] = x at hcb HIFF
        have b0 := x.toNat_lt
        have b1 := y.toNat_lt
        clear hrs hr1 hown1
        by_cases he : y = x
        · have hb2 := toNat_eqb he
          have HE := hide he
          clear he
          go_wp2_with fail
          go_quiet (fail)
          go_wp2
          go_roundw
          case rel => exact ⟨k + 1, by omega, by go_num, ⟨_, rfl⟩, hide (fun j hj => by
            rcases Nat.lt_succ_iff_lt_or_eq.1 hj with h | h
            · exact HK.out j h
            · subst h; exact HIFF.out.2 HE.out.symm)⟩
          case measure => simp [intOf]; omega
        · have hb2 := toNat_ne he
          have HE := hide he
          clear he
          go_wp2_with fail
          go_quiet (fail)
          go_wp2
          go_ret2
          have hf : openOk l = false := by
            rw [HOK.out]
            apply decide_eq_false
            intro hd
            apply HE.out
            have : (l.drop m)[k]? = (le4 (sumN (l.take m)))[k]? := by rw [hd]
            rw [List.getElem?_drop] at this
            exact (HIFF.out.1 this).symm
          rw [HERR.out, HBODY.out, hf]
          exact ⟨_, rfl, Ow.nil _ _ _ _, below_drewN (below_drewN hb1 _) _⟩
      · have h44 : k = 4 := by omega
        have hT : openOk l = true := by
          rw [HOK.out]
          apply decide_eq_true
          apply drop_eq_of (by rw [HL.out]; simp [le4])
          intro j hj
          rw [HK.out j (by simp [le4] at hj; omega), List.getElem?_eq_getElem hj]
        have HT := hide hT
        clear hT
        have HO := hide hown1
        clear hown1 hrs hr1 h44
        go_wp2_with fail
        go_ret2
        rw [HERR.out, HBODY.out, HT.out]
        refine ⟨_, rfl, ?_, below_drewN hb1 _⟩
        have := (HO.out.take (k := m) (by omega) (by simp)).drewN q
        simp only [if_true]
        rw [HLM.out]
        rw [Nat.mul_one, ← List.map_take, List.take_left' HLM.out] at this
        exact this
end Go.Proofs.Ytlliffbhkagodaa
