/- code.count, and the Reader's methods. -/
import Derived.Test.YtoammbfipinejaaCodeB
namespace Go.Proofs.Ytoammbfipinejaa
open Go.RowKit
set_option linter.unusedVariables false
set_option linter.unusedSimpArgs false

def cnt (l : List UInt8) (most : Int) : Nat × Nat × Nat := if (dec l).2.2 ≠ 0 then (0, 0, (dec l).2.2) else if max most 0 < (dec l).1 then (0, 0, 17) else dec l
theorem cnt_bounds (l : List UInt8) (most : Int) : ((cnt l most).1 : Int) ≤ max most 0 ∧ (cnt l most).2.1 ≤ l.length ∧ (cnt l most).2.1 ≤ 10 ∧ (cnt l most).2.2 ≤ 17 := by
  have h := dec_bounds l 0 0 (dec l).1 (dec l).2.1 (dec l).2.2 (by omega) (by simp) rfl
  unfold cnt
  split
  · simp; omega
  · split
    · simp; omega
    · omega

set_option maxHeartbeats 400000 in
set_option maxRecDepth 100000 in
theorem count_any (A : Option Addr) (n c : Nat) (l : List UInt8) (most : Int) (w : World) (hr : RdB w w.heap.size A n l) (hn : n ≤ 140737488351232) (hm : most ≤ 9223372036854775807) :
    Calls Try.prog 92 #[.slice A n c, .int .i64 most] w fun e w' => e = .returned (.tuple #[.int .i64 (cnt l most).1, .int .i64 (cnt l most).2.1, .int .i64 (cnt l most).2.2]) ∧ w = w' := by
  have hb := dec_bounds l 0 0 (dec l).1 (dec l).2.1 (dec l).2.2 (by omega) (by simp) rfl
  obtain ⟨_, hb2, hb3, hb4, hb5⟩ := hb
  have HF := hide (first_any A n c l w hr hn)
  have HC := hide (show cnt l most = if (dec l).2.2 ≠ 0 then (0, 0, (dec l).2.2) else if max most 0 < (dec l).1 then (0, 0, 17) else dec l from rfl)
  generalize hcnt : cnt l most = C at *
  clear hcnt
  generalize dec l = d at *
  obtain ⟨u, s, er⟩ := d
  simp only at HF HC hb2 hb3 hb4 hb5 ⊢
  have HM := hide hm
  clear hm
  by_cases h0 : er = 0
  · have he : ((er : Int) != 0) = false := by rw [h0]; rfl
    have HE := hide h0
    clear h0 hb3 hb4
    have hcc := HC.out
    rw [if_neg (by simp [HE.out])] at hcc
    have HCC := hide hcc
    clear hcc HC
    have HU := hide (show IntKind.u64.wrap (max most 0) = max most 0 from by have := HM.out; rw [u64_wrap]; omega)
    by_cases hneg : most < 0
    · have hmx : max most 0 = 0 := by omega
      have hu0 := HU.out
      rw [hmx] at hu0
      have HCM := HCC.out
      rw [hmx] at HCM
      clear HCC
      by_cases hu : 0 < u
      · rw [if_pos (by omega)] at HCM
        rw [HCM]
        clear HCM
        go_enter Try.func92, Try.ntmps92
        go_wp2_with (go_at_call 71; refine HF.out.mono ?_; rintro e w' ⟨rfl, rfl⟩)
        go_ret3
        exact ⟨rfl, rfl⟩
      · rw [if_neg (by omega)] at HCM
        rw [HCM, HE.out]
        clear HCM
        have huw : IntKind.i64.wrap (u : Int) = u := by rw [IntKind.wrap_i64]; omega
        go_enter Try.func92, Try.ntmps92
        go_wp2_with (go_at_call 71; refine HF.out.mono ?_; rintro e w' ⟨rfl, rfl⟩)
        go_ret3
        exact ⟨by simp [huw], rfl⟩
    · have hmx : max most 0 = most := by omega
      have hu0 := HU.out
      rw [hmx] at hu0
      have HCM := HCC.out
      rw [hmx] at HCM
      clear HCC
      by_cases hu : most < (u : Int)
      · rw [if_pos (by omega)] at HCM
        rw [HCM]
        clear HCM
        go_enter Try.func92, Try.ntmps92
        go_wp2_with (go_at_call 71; refine HF.out.mono ?_; rintro e w' ⟨rfl, rfl⟩)
        all_goals
          go_ret3
          exact ⟨rfl, rfl⟩
      · rw [if_neg (by omega)] at HCM
        rw [HCM, HE.out]
        clear HCM
        have huw : IntKind.i64.wrap (u : Int) = u := by have := HM.out; rw [IntKind.wrap_i64]; omega
        go_enter Try.func92, Try.ntmps92
        go_wp2_with (go_at_call 71; refine HF.out.mono ?_; rintro e w' ⟨rfl, rfl⟩)
        all_goals
          go_ret3
          exact ⟨by simp [huw], rfl⟩
  · have he : ((er : Int) != 0) = true := by simp; omega
    have hcc := HC.out
    rw [if_pos (by simpa using h0)] at hcc
    rw [hcc]
    clear h0 hb3 hb4 HC hcc
    go_enter Try.func92, Try.ntmps92
    go_wp2_with (go_at_call 71; refine HF.out.mono ?_; rintro e w' ⟨rfl, rfl⟩)
    go_ret3
    exact ⟨rfl, rfl⟩

/-! ### the Reader -/
/-- The reader at block g has the bytes l still to come, and the fault e. -/
def Rdr (w : World) (g : Nat) (l : List UInt8) (e : Nat) : Prop :=
  ∃ A n c, Blk w g 123 #[.slice A n c, .int .i64 (e : Int)] ∧ RdB w g A n l ∧ n ≤ c ∧ c ≤ maxLen ∧ n ≤ 140737488351232
def tkL (l : List UInt8) (e size er : Nat) : List UInt8 := if e = 0 ∧ er = 0 then l.drop size else l
def tkE (e er : Nat) : Nat := if e = 0 then er else e
theorem Rdr.next {w w' : World} {g e : Nat} {l : List UInt8} (h : Rdr w g l e) (hb : Below w.heap.size w w') : Rdr w' g l e := by
  obtain ⟨A, n, c, hk, hr, h1, h2, h3⟩ := h
  exact ⟨A, n, c, hk.next hb, hr.below (hb.mono (Nat.le_of_lt hk.lt)), h1, h2, h3⟩
theorem Rdr.lt {w : World} {g e : Nat} {l : List UInt8} (h : Rdr w g l e) : g < w.heap.size := by
  obtain ⟨A, n, c, hk, _⟩ := h
  exact hk.lt

theorem take_bad (g e er : Nat) (size : Int) (l : List UInt8) (w : World) (h : Rdr w g l e) (hne : ¬ (e = 0 ∧ er = 0)) :
    Calls Try.prog 72 #[.pointer (some ⟨g, 0, none⟩), .int .i64 size, .int .i64 (er : Int)] w fun x w' => x = .returned (.bool (decide (e = 0 ∧ er = 0))) ∧ Rdr w' g (tkL l e size.toNat er) (tkE e er) ∧ w.grownBy w' (some g) := by
  have h0 := h
  obtain ⟨A, n, c, hk, hr, h1, h2, h3⟩ := h
  have c0 := hk.cell 0
  have c1 := hk.cell 1
  have f0 := hk.frozen 0
  have f1 := hk.frozen 1
  simp only [List.getElem?_toArray, List.getElem?_cons_zero, List.getElem?_cons_succ] at c0 c1
  rw [decide_eq_false hne, show tkL l e size.toNat er = l from if_neg hne]
  by_cases he : e = 0
  · have b0 : ((e : Int) != 0) = false := by rw [he]; rfl
    have hr0 : er ≠ 0 := fun h => hne ⟨he, h⟩
    have b1 : ((er : Int) != 0) = true := by simp; omega
    rw [show tkE e er = er from by unfold tkE; rw [if_pos he]]
    have HE := hide he
    have HR := hide hr0
    have HK := hide hk
    have H0 := hide hr
    clear he hr0 hne h0 hk hr
    go_enter Try.func72, Try.ntmps72
    go_wp2
    go_ret
    exact ⟨rfl, ⟨A, n, c, by simpa using HK.out.set_ 1 _, H0.out.setCell (Nat.le_refl _) _, h1, h2, h3⟩, grown_set w g 1 _⟩
  · have b0 : ((e : Int) != 0) = true := by simp; omega
    rw [show tkE e er = e from by unfold tkE; rw [if_neg he]]
    clear he hne hk hr
    go_enter Try.func72, Try.ntmps72
    go_wp2
    go_ret
    exact ⟨rfl, h0, World.grownBy.refl _ _⟩
theorem take_any (g size e er : Nat) (l : List UInt8) (w : World) (h : Rdr w g l e) (hs : e = 0 → er = 0 → size ≤ l.length) :
    Calls Try.prog 72 #[.pointer (some ⟨g, 0, none⟩), .int .i64 (size : Int), .int .i64 (er : Int)] w fun x w' => x = .returned (.bool (decide (e = 0 ∧ er = 0))) ∧ Rdr w' g (tkL l e size er) (tkE e er) ∧ w.grownBy w' (some g) := by
  have h0 := h
  obtain ⟨A, n, c, hk, hr, h1, h2, h3⟩ := h
  have c0 := hk.cell 0
  have c1 := hk.cell 1
  have f0 := hk.frozen 0
  have f1 := hk.frozen 1
  have hlen := RdB.len hr
  simp only [List.getElem?_toArray, List.getElem?_cons_zero, List.getElem?_cons_succ] at c0 c1
  by_cases he : e = 0
  · have b0 : ((e : Int) != 0) = false := by rw [he]; rfl
    by_cases hr0 : er = 0
    · have b1 : ((er : Int) != 0) = false := by rw [hr0]; rfl
      have hsz := hs he hr0
      rw [hlen] at hsz
      rw [decide_eq_true ⟨he, hr0⟩, show tkL l e size er = l.drop size from if_pos ⟨he, hr0⟩, show tkE e er = e from by unfold tkE; rw [if_pos he, hr0, he]]
      have HE := hide he
      have HR := hide hr0
      have HK := hide hk
      have H0 := hide hr
      clear he hr0 hs h0 hk hr hlen
      have hcut := H0.out.cut (k := size) (cap := c) hsz h1
      rw [Nat.mul_one, ← List.map_drop] at hcut
      have hm := h2
      unfold maxLen at h2
      by_cases hcs : c = size
      · rw [if_pos hcs] at hcut
        have HCS := hide hcs
        have HCT := hide hcut
        clear hcs hcut
        have hcd : (c = size) = True := by simp [HCS.out]
        go_enter Try.func72, Try.ntmps72
        go_wp2
        go_ret
        exact ⟨rfl, ⟨A, n - size, c - size, by simpa using HK.out.set_ 0 _, HCT.out.setCell (Nat.le_refl _) _, by omega, by simp only [maxLen]; omega, by omega⟩, grown_set w g 0 _⟩
      · rw [if_neg hcs] at hcut
        have HCT := hide hcut
        clear hcut
        go_enter Try.func72, Try.ntmps72
        go_wp2
        go_ret
        exact ⟨rfl, ⟨_, n - size, c - size, by simpa using HK.out.set_ 0 _, HCT.out.setCell (Nat.le_refl _) _, by omega, by simp only [maxLen]; omega, by omega⟩, grown_set w g 0 _⟩
    · exact take_bad g e er size l w h0 (fun h => hr0 h.2)
  · exact take_bad g e er size l w h0 (fun h => he h.1)

/-! ### Uint, Count, Left, Err, End -/
def uV (l : List UInt8) (e : Nat) : Nat := if e = 0 ∧ (dec l).2.2 = 0 then (dec l).1 else 0
theorem uint_any (g e : Nat) (l : List UInt8) (w : World) (h : Rdr w g l e) :
    Calls Try.prog 35 #[.pointer (some ⟨g, 0, none⟩)] w fun x w' => x = .returned (.int .u64 (uV l e)) ∧ Rdr w' g (tkL l e (dec l).2.1 (dec l).2.2) (tkE e (dec l).2.2) ∧ w.grownBy w' (some g) := by
  have h0 := h
  obtain ⟨A, n, c, hk, hr, h1, h2, h3⟩ := h
  have c0 := hk.cell 0
  simp only [List.getElem?_toArray, List.getElem?_cons_zero, List.getElem?_cons_succ] at c0
  have hlen := RdB.len hr
  have hb := dec_bounds l 0 0 (dec l).1 (dec l).2.1 (dec l).2.2 (by omega) (by simp) rfl
  have hsz : e = 0 → (dec l).2.2 = 0 → (dec l).2.1 ≤ l.length := fun _ _ => by omega
  have HT := hide (take_any g (dec l).2.1 e (dec l).2.2 l w h0 hsz)
  have HF := hide (first_any A n c l w (hr.more (Nat.le_of_lt hk.lt)) h3)
  have HV := hide (show uV l e = if e = 0 ∧ (dec l).2.2 = 0 then (dec l).1 else 0 from rfl)
  clear hlen hb hsz hk hr h0
  generalize uV l e = V at HV
  generalize dec l = d at *
  obtain ⟨u, s, er⟩ := d
  simp only at HT HF HV ⊢
  generalize hq : decide (e = 0 ∧ er = 0) = q at HT
  have HQ := hide hq
  clear hq
  cases q with
  | true =>
    have hv := HV.out
    rw [if_pos (of_decide_eq_true HQ.out)] at hv
    rw [hv]
    clear hv
    go_enter Try.func35, Try.ntmps35
    go_wp2_with (first | (go_at_call 71; refine HF.out.mono ?_; rintro e w' ⟨rfl, rfl⟩) | (go_at_call 72; refine HT.out.mono ?_; rintro e w1 ⟨rfl, hr1, hg1⟩))
    go_ret
    exact ⟨rfl, hr1, hg1⟩
  | false =>
    have hv := HV.out
    rw [if_neg (of_decide_eq_false HQ.out)] at hv
    rw [hv]
    clear hv
    go_enter Try.func35, Try.ntmps35
    go_wp2_with (first | (go_at_call 71; refine HF.out.mono ?_; rintro e w' ⟨rfl, rfl⟩) | (go_at_call 72; refine HT.out.mono ?_; rintro e w1 ⟨rfl, hr1, hg1⟩))
    go_ret
    exact ⟨rfl, hr1, hg1⟩
end Go.Proofs.Ytoammbfipinejaa
