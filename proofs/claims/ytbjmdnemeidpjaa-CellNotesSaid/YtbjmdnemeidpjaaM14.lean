/- Parts CeO, Laid of the proof, put together. -/
import Derived.Test.YtbjmdnemeidpjaaM13
import Derived.Test.YtbjmdnemeidpjaaChecked
import Derived.Test.YtbjmdnemeidpjaaRows
/- CellNotes: a note changes a tally alone, and a value never one. -/
namespace Go.Proofs.Ytbjmdnemeidpjaa
set_option linter.unusedSimpArgs false
set_option linter.unusedVariables false
open Go.RowKit
set_option maxRecDepth 100000
def cn (b : Bool) (c : Cel) : Cel := match b with
  | true => ⟨c.n, c.s, c.mn, c.mx, c.ce + 1, c.po, c.h⟩
  | false => ⟨c.n, c.s, c.mn, c.mx, c.ce, c.po + 1, c.h⟩
def ad (v : Int) (c : Cel) : Cel := ⟨c.n + 1, c.s + v, if c.n = 0 then v else min c.mn v, if c.n = 0 then v else max c.mx v, c.ce, c.po, bump c.h (bkt v)⟩
theorem cn_ad (b : Bool) (v : Int) (c : Cel) : ad v (cn b c) = cn b (ad v c) := by cases b <;> rfl
theorem note_cn {c : Cel} {b : Bool} (hr : RightC c) (h1 : c.ce < big) (h2 : c.po < big) : noteC c b = (cn b c, 0) := by
  rw [noteC_fine hr (by cases b <;> simp <;> omega)]
  cases b <;> rfl
theorem cn_right {c : Cel} {b : Bool} (hr : RightC c) (h1 : c.ce < big) (h2 : c.po < big) : RightC (cn b c) := by
  have := noteC_right (c := c) (b := b) hr (by cases b <;> simp <;> omega)
  rw [note_cn hr h1 h2] at this
  exact this
theorem cn_ok {c : Cel} {b : Bool} (hc : CelOK c) (hr : RightC c) (h1 : c.ce < big) (h2 : c.po < big) : CelOK (cn b c) := by
  have := noteC_ok (c := c) (b := b) hc hr (by cases b <;> simp <;> omega)
  rw [note_cn hr h1 h2] at this
  exact this
/-- What holds of a cell between the notes. -/
structure Mid2 (c a : Cel) (i : Nat) : Prop where
  ok : CelOK a
  r : RightC a
  n : a.n = c.n + i
  ce : a.ce = c.ce
  po : a.po = c.po
  s1 : -1152921504606846976 - (i : Int) ≤ hiZ a.s
  s2 : hiZ a.s ≤ 1152921504606846976 + (i : Int)
theorem hiZ_add {s v : Int} (hv : in64 v) : hiZ s - 1 ≤ hiZ (s + v) ∧ hiZ (s + v) ≤ hiZ s + 1 := by
  unfold in64 at hv
  unfold hiZ word
  omega
theorem Mid2.next {c a : Cel} {i : Nat} {v : Int} (h : Mid2 c a i) (hv : in64 v) (hn : c.n ≤ 1152921504606846976) (hi : i ≤ 60) : addC a v = (ad v a, 0) ∧ Mid2 c (ad v a) (i + 1) := by
  obtain ⟨k1, k2⟩ := hiZ_add (s := a.s) hv
  have h1 := h.n
  have h2 := h.s1
  have h3 := h.s2
  have hb : a.n ≠ big := by unfold big; omega
  have hs : in128 (a.s + v) := by unfold in128 in64; omega
  have e : addC a v = (ad v a, 0) := addC_fine h.r hb hs
  have ok := addC_ok h.ok h.r hv hb hs
  have rr := addC_right h.ok h.r hv hb hs
  rw [e] at ok rr
  exact ⟨e, ok, rr, by show a.n + 1 = _; omega, h.ce, h.po, by show _ ≤ hiZ (a.s + v); omega, by show hiZ (a.s + v) ≤ _; omega⟩
theorem Mid2.next2 {c a : Cel} {i : Nat} {v : Int} {b : Bool} (h : Mid2 c a i) (hv : in64 v) (hn : c.n ≤ 1152921504606846976) (hi : i ≤ 60) (h1 : c.ce < big) (h2 : c.po < big) : addC (cn b a) v = (cn b (ad v a), 0) := by
  obtain ⟨k1, k2⟩ := hiZ_add (s := a.s) hv
  have q1 := h.n
  have q2 := h.s1
  have q3 := h.s2
  have hb : a.n ≠ big := by unfold big; omega
  have hs : in128 (a.s + v) := by unfold in128 in64; omega
  rw [← cn_ad]
  have hr := cn_right (b := b) h.r (by rw [h.ce]; exact h1) (by rw [h.po]; exact h2)
  cases b
  · exact addC_fine hr hb hs
  · exact addC_fine hr hb hs
theorem neq_self {x y : Int} (h : x = y) (q : (x != y) = true) : False := by rw [h] at q; simp at q
set_option maxHeartbeats 64000000 in
theorem notes_sat_c (c : Cel) (l : List Int) (b : Bool) (hc : CelOK c) (hl : ∀ z ∈ l, in64 z) : Sat Try.prog 6 [.d (cD c), .d (lD l), bA b] [] (bA true) [] := by
  have hm : (l.map lR).length = l.length := List.length_map _
  have hlc := hc.hl
  have r1 := right_sat_c c hc
  by_cases hg : l.length ≤ 60 ∧ rightC c = true
  case neg =>
    by_cases hr : rightC c = true
    · rw [hr] at r1
      have hg : 60 < l.length := by
        by_cases q : l.length ≤ 60
        · exact absurd ⟨q, hr⟩ hg
        · omega
      refine sat_of_vc (T := tiOf Try.prog) (E := E0) Try.func6 rfl rfl hE0 hm0 rfl ?_
      conv => whnf
      iterate 5
        repeat (any_goals (first
          | exact True.intro
          | (refine ⟨_, drop_id, ?_⟩; conv => whnf)
          | (refine ⟨_, _, at_n, ?_⟩; conv => whnf)
          | (refine ⟨_, _, at_hi, ?_⟩; conv => whnf)
          | (refine ⟨_, _, at_lo, ?_⟩; conv => whnf)
          | (refine ⟨_, _, at_mn, ?_⟩; conv => whnf)
          | (refine ⟨_, _, at_mx, ?_⟩; conv => whnf)
          | (refine ⟨_, _, at_ce, ?_⟩; conv => whnf)
          | (refine ⟨_, _, at_po, ?_⟩; conv => whnf)
          | (refine ⟨_, whole_z sC, clenz sC, ?_⟩; conv => whnf)
          | (refine ⟨_, setzC, ?_⟩; conv => whnf)
          | (refine And.intro (clenz sC) ?_; conv => whnf)
          | (refine And.intro fitzC ?_; conv => whnf)
          | (refine ⟨_, whole_cell sC hlc, clen sC hlc, ?_⟩; conv => whnf)
          | (refine And.intro (clen sC hlc) ?_; conv => whnf)
          | (refine And.intro (fitC hlc) ?_; conv => whnf)
          | (refine ⟨_, setC hlc, ?_⟩; conv => whnf)
          | (refine ⟨_, whole_z sF, clenz sF, ?_⟩; conv => whnf)
          | (refine ⟨_, setzF, ?_⟩; conv => whnf)
          | (refine And.intro (clenz sF) ?_; conv => whnf)
          | (refine And.intro fitzF ?_; conv => whnf)
          | (refine ⟨_, whole_cell sF hlc, clen sF hlc, ?_⟩; conv => whnf)
          | (refine And.intro (clen sF hlc) ?_; conv => whnf)
          | (refine And.intro (fitF hlc) ?_; conv => whnf)
          | (refine ⟨_, setF hlc, ?_⟩; conv => whnf)
          | (refine And.intro (fit1 hlc (by decide)) ?_; conv => whnf)
          | (refine And.intro (fit1 rfl (by decide)) ?_; conv => whnf)
          | (refine ⟨_, sum_cell s25, rfl, ?_⟩; conv => whnf)
          | (refine ⟨_, set_n _, ?_⟩; conv => whnf)
          | (refine ⟨_, set_mn _, ?_⟩; conv => whnf)
          | (refine ⟨_, set_mx _, ?_⟩; conv => whnf)
          | (refine ⟨_, set_ce _, ?_⟩; conv => whnf)
          | (refine ⟨_, set_po _, ?_⟩; conv => whnf)
          | (refine ⟨_, set_s _, ?_⟩; conv => whnf)
          | (refine ⟨_, set_hi _, ?_⟩; conv => whnf)
          | (refine ⟨_, set_lo _, ?_⟩; conv => whnf)
          | (refine And.intro (fun _ => ?_) tf; conv => whnf)
          | (refine And.intro ft (fun _ => ?_); conv => whnf)
          | (refine And.intro (by kernel_rfl) ?_; conv => whnf)
          | (refine And.intro (by decide) ?_; conv => whnf)
          | (refine And.intro (fun _ => ?_) (fun h => absurd h (by decide)); conv => whnf)
          | (refine And.intro (fun h => absurd h (by decide)) (fun _ => ?_); conv => whnf)
          | (refine And.intro (fun _ => ?_) (fun _ => ?_) <;> conv => whnf)
          | (refine ⟨_, _, alive21.pu rfl rfl, ?_⟩; conv => whnf)
          | (refine ⟨_, _, r1.pu rfl rfl, ?_⟩; conv => whnf)))
        all_goals try (exfalso; simp only [decide_eq_true_eq, decide_eq_false_iff_not, Bool.not_eq_true', Bool.not_eq_false', Bool.not_eq_true, Bool.not_eq_false, beq_iff_eq, bne_iff_ne, beq_eq_false_iff_ne, bne_eq_false_iff_eq, ne_eq, Decidable.not_not] at *; first | omega | contradiction | (simp_all; done) | (simp_all; omega))
        all_goals try (refine Or.inl ?_; conv => whnf)
      all_goals refine ⟨[], ?_⟩
      repeat (any_goals (first | exact True.intro | exact rfl | with_reducible_and_instances rfl | exact (by kernel_rfl) | refine And.intro ?_ ?_))
      all_goals conv => whnf
    · have hr : rightC c = false := by simpa using hr
      rw [hr] at r1
      clear hg
      refine sat_of_vc (T := tiOf Try.prog) (E := E0) Try.func6 rfl rfl hE0 hm0 rfl ?_
      conv => whnf
      iterate 5
        repeat (any_goals (first
          | exact True.intro
          | (refine ⟨_, drop_id, ?_⟩; conv => whnf)
          | (refine ⟨_, _, at_n, ?_⟩; conv => whnf)
          | (refine ⟨_, _, at_hi, ?_⟩; conv => whnf)
          | (refine ⟨_, _, at_lo, ?_⟩; conv => whnf)
          | (refine ⟨_, _, at_mn, ?_⟩; conv => whnf)
          | (refine ⟨_, _, at_mx, ?_⟩; conv => whnf)
          | (refine ⟨_, _, at_ce, ?_⟩; conv => whnf)
          | (refine ⟨_, _, at_po, ?_⟩; conv => whnf)
          | (refine ⟨_, whole_z sC, clenz sC, ?_⟩; conv => whnf)
          | (refine ⟨_, setzC, ?_⟩; conv => whnf)
          | (refine And.intro (clenz sC) ?_; conv => whnf)
          | (refine And.intro fitzC ?_; conv => whnf)
          | (refine ⟨_, whole_cell sC hlc, clen sC hlc, ?_⟩; conv => whnf)
          | (refine And.intro (clen sC hlc) ?_; conv => whnf)
          | (refine And.intro (fitC hlc) ?_; conv => whnf)
          | (refine ⟨_, setC hlc, ?_⟩; conv => whnf)
          | (refine ⟨_, whole_z sF, clenz sF, ?_⟩; conv => whnf)
          | (refine ⟨_, setzF, ?_⟩; conv => whnf)
          | (refine And.intro (clenz sF) ?_; conv => whnf)
          | (refine And.intro fitzF ?_; conv => whnf)
          | (refine ⟨_, whole_cell sF hlc, clen sF hlc, ?_⟩; conv => whnf)
          | (refine And.intro (clen sF hlc) ?_; conv => whnf)
          | (refine And.intro (fitF hlc) ?_; conv => whnf)
          | (refine ⟨_, setF hlc, ?_⟩; conv => whnf)
          | (refine And.intro (fit1 hlc (by decide)) ?_; conv => whnf)
          | (refine And.intro (fit1 rfl (by decide)) ?_; conv => whnf)
          | (refine ⟨_, sum_cell s25, rfl, ?_⟩; conv => whnf)
          | (refine ⟨_, set_n _, ?_⟩; conv => whnf)
          | (refine ⟨_, set_mn _, ?_⟩; conv => whnf)
          | (refine ⟨_, set_mx _, ?_⟩; conv => whnf)
          | (refine ⟨_, set_ce _, ?_⟩; conv => whnf)
          | (refine ⟨_, set_po _, ?_⟩; conv => whnf)
          | (refine ⟨_, set_s _, ?_⟩; conv => whnf)
          | (refine ⟨_, set_hi _, ?_⟩; conv => whnf)
          | (refine ⟨_, set_lo _, ?_⟩; conv => whnf)
          | (refine And.intro (fun _ => ?_) tf; conv => whnf)
          | (refine And.intro ft (fun _ => ?_); conv => whnf)
          | (refine And.intro (by kernel_rfl) ?_; conv => whnf)
          | (refine And.intro (by decide) ?_; conv => whnf)
          | (refine And.intro (fun _ => ?_) (fun h => absurd h (by decide)); conv => whnf)
          | (refine And.intro (fun h => absurd h (by decide)) (fun _ => ?_); conv => whnf)
          | (refine And.intro (fun _ => ?_) (fun _ => ?_) <;> conv => whnf)
          | (refine ⟨_, _, alive21.pu rfl rfl, ?_⟩; conv => whnf)
          | (refine ⟨_, _, r1.pu rfl rfl, ?_⟩; conv => whnf)))
        all_goals try (exfalso; simp only [decide_eq_true_eq, decide_eq_false_iff_not, Bool.not_eq_true', Bool.not_eq_false', Bool.not_eq_true, Bool.not_eq_false, beq_iff_eq, bne_iff_ne, beq_eq_false_iff_ne, bne_eq_false_iff_eq, ne_eq, Decidable.not_not] at *; first | omega | contradiction | (simp_all; done) | (simp_all; omega))
        all_goals try (refine Or.inl ?_; conv => whnf)
      all_goals refine ⟨[], ?_⟩
      repeat (any_goals (first | exact True.intro | exact rfl | with_reducible_and_instances rfl | exact (by kernel_rfl) | refine And.intro ?_ ?_))
      all_goals conv => whnf
  obtain ⟨hlen, hr⟩ := hg
  rw [hr] at r1
  by_cases hg : c.ce ≤ 1152921504606846976 ∧ c.po ≤ 1152921504606846976 ∧ c.n ≤ 1152921504606846976 ∧ hiZ c.s ≤ 1152921504606846976 ∧ -1152921504606846976 ≤ hiZ c.s
  case neg =>
    refine sat_of_vc (T := tiOf Try.prog) (E := E0) Try.func6 rfl rfl hE0 hm0 rfl ?_
    conv => whnf
    iterate 6
      repeat (any_goals (first
        | exact True.intro
        | (refine ⟨_, drop_id, ?_⟩; conv => whnf)
        | (refine ⟨_, _, at_n, ?_⟩; conv => whnf)
        | (refine ⟨_, _, at_hi, ?_⟩; conv => whnf)
        | (refine ⟨_, _, at_lo, ?_⟩; conv => whnf)
        | (refine ⟨_, _, at_mn, ?_⟩; conv => whnf)
        | (refine ⟨_, _, at_mx, ?_⟩; conv => whnf)
        | (refine ⟨_, _, at_ce, ?_⟩; conv => whnf)
        | (refine ⟨_, _, at_po, ?_⟩; conv => whnf)
        | (refine ⟨_, whole_z sC, clenz sC, ?_⟩; conv => whnf)
        | (refine ⟨_, setzC, ?_⟩; conv => whnf)
        | (refine And.intro (clenz sC) ?_; conv => whnf)
        | (refine And.intro fitzC ?_; conv => whnf)
        | (refine ⟨_, whole_cell sC hlc, clen sC hlc, ?_⟩; conv => whnf)
        | (refine And.intro (clen sC hlc) ?_; conv => whnf)
        | (refine And.intro (fitC hlc) ?_; conv => whnf)
        | (refine ⟨_, setC hlc, ?_⟩; conv => whnf)
        | (refine ⟨_, whole_z sF, clenz sF, ?_⟩; conv => whnf)
        | (refine ⟨_, setzF, ?_⟩; conv => whnf)
        | (refine And.intro (clenz sF) ?_; conv => whnf)
        | (refine And.intro fitzF ?_; conv => whnf)
        | (refine ⟨_, whole_cell sF hlc, clen sF hlc, ?_⟩; conv => whnf)
        | (refine And.intro (clen sF hlc) ?_; conv => whnf)
        | (refine And.intro (fitF hlc) ?_; conv => whnf)
        | (refine ⟨_, setF hlc, ?_⟩; conv => whnf)
        | (refine And.intro (fit1 hlc (by decide)) ?_; conv => whnf)
        | (refine And.intro (fit1 rfl (by decide)) ?_; conv => whnf)
        | (refine ⟨_, sum_cell s25, rfl, ?_⟩; conv => whnf)
        | (refine ⟨_, set_n _, ?_⟩; conv => whnf)
        | (refine ⟨_, set_mn _, ?_⟩; conv => whnf)
        | (refine ⟨_, set_mx _, ?_⟩; conv => whnf)
        | (refine ⟨_, set_ce _, ?_⟩; conv => whnf)
        | (refine ⟨_, set_po _, ?_⟩; conv => whnf)
        | (refine ⟨_, set_s _, ?_⟩; conv => whnf)
        | (refine ⟨_, set_hi _, ?_⟩; conv => whnf)
        | (refine ⟨_, set_lo _, ?_⟩; conv => whnf)
        | (refine And.intro (fun _ => ?_) tf; conv => whnf)
        | (refine And.intro ft (fun _ => ?_); conv => whnf)
        | (refine And.intro (by kernel_rfl) ?_; conv => whnf)
        | (refine And.intro (by decide) ?_; conv => whnf)
        | (refine And.intro (fun _ => ?_) (fun h => absurd h (by decide)); conv => whnf)
        | (refine And.intro (fun h => absurd h (by decide)) (fun _ => ?_); conv => whnf)
        | (refine And.intro (fun _ => ?_) (fun _ => ?_) <;> conv => whnf)
        | (refine ⟨_, _, alive21.pu rfl rfl, ?_⟩; conv => whnf)
        | (refine ⟨_, _, r1.pu rfl rfl, ?_⟩; conv => whnf)))
      all_goals try (exfalso; simp only [decide_eq_true_eq, decide_eq_false_iff_not, Bool.not_eq_true', Bool.not_eq_false', Bool.not_eq_true, Bool.not_eq_false, beq_iff_eq, bne_iff_ne, beq_eq_false_iff_ne, bne_eq_false_iff_eq, ne_eq, Decidable.not_not] at *; first | omega | contradiction | (simp_all; done) | (simp_all; omega))
      all_goals try (refine Or.inl ?_; conv => whnf)
    all_goals refine ⟨[], ?_⟩
    repeat (any_goals (first | exact True.intro | exact rfl | with_reducible_and_instances rfl | exact (by kernel_rfl) | refine And.intro ?_ ?_))
    all_goals conv => whnf
  obtain ⟨g1, g2, g3, g4, g5⟩ := hg
  have hR := right_iff.1 hr
  have hce : c.ce < big := by unfold big; omega
  have hpo : c.po < big := by unfold big; omega
  have n1 := note_sat c b hc (by rw [hr]; exact r1)
  rw [note_cn hR hce hpo] at n1
  have hbo := cn_ok (b := b) hc hR hce hpo
  have hbl := hbo.hl
  have z1 := hR.ce
  have z2 := hR.po
  have w1 : IntKind.i64.wrap (c.ce + c.po) = c.ce + c.po := wi (by omega) (by omega)
  have w2 : IntKind.i64.wrap (c.ce + c.po + 1) = c.ce + c.po + 1 := wi (by omega) (by omega)
  refine sat_of_vc (T := tiOf Try.prog) (E := E0) Try.func6 rfl rfl hE0 hm0 rfl ?_
  conv => whnf
  cases b
  · have wA : IntKind.i64.wrap (c.ce + (c.po + 1)) = IntKind.i64.wrap (IntKind.i64.wrap (c.ce + c.po) + 1) := by rw [w1, w2, wi (by omega) (by omega)]; omega
    iterate 6
      repeat (any_goals (first
        | exact True.intro
        | (refine ⟨_, drop_id, ?_⟩; conv => whnf)
        | (refine ⟨_, _, at_n, ?_⟩; conv => whnf)
        | (refine ⟨_, _, at_hi, ?_⟩; conv => whnf)
        | (refine ⟨_, _, at_lo, ?_⟩; conv => whnf)
        | (refine ⟨_, _, at_mn, ?_⟩; conv => whnf)
        | (refine ⟨_, _, at_mx, ?_⟩; conv => whnf)
        | (refine ⟨_, _, at_ce, ?_⟩; conv => whnf)
        | (refine ⟨_, _, at_po, ?_⟩; conv => whnf)
        | (refine ⟨_, whole_z sC, clenz sC, ?_⟩; conv => whnf)
        | (refine ⟨_, setzC, ?_⟩; conv => whnf)
        | (refine And.intro (clenz sC) ?_; conv => whnf)
        | (refine And.intro fitzC ?_; conv => whnf)
        | (refine ⟨_, whole_cell sC hlc, clen sC hlc, ?_⟩; conv => whnf)
        | (refine And.intro (clen sC hlc) ?_; conv => whnf)
        | (refine And.intro (fitC hlc) ?_; conv => whnf)
        | (refine ⟨_, setC hlc, ?_⟩; conv => whnf)
        | (refine ⟨_, whole_cell sC hbl, clen sC hbl, ?_⟩; conv => whnf)
        | (refine And.intro (clen sC hbl) ?_; conv => whnf)
        | (refine And.intro (fitC hbl) ?_; conv => whnf)
        | (refine ⟨_, setC hbl, ?_⟩; conv => whnf)
        | (refine ⟨_, whole_z sF, clenz sF, ?_⟩; conv => whnf)
        | (refine ⟨_, setzF, ?_⟩; conv => whnf)
        | (refine And.intro (clenz sF) ?_; conv => whnf)
        | (refine And.intro fitzF ?_; conv => whnf)
        | (refine ⟨_, whole_cell sF hlc, clen sF hlc, ?_⟩; conv => whnf)
        | (refine And.intro (clen sF hlc) ?_; conv => whnf)
        | (refine And.intro (fitF hlc) ?_; conv => whnf)
        | (refine ⟨_, setF hlc, ?_⟩; conv => whnf)
        | (refine ⟨_, whole_cell sF hbl, clen sF hbl, ?_⟩; conv => whnf)
        | (refine And.intro (clen sF hbl) ?_; conv => whnf)
        | (refine And.intro (fitF hbl) ?_; conv => whnf)
        | (refine ⟨_, setF hbl, ?_⟩; conv => whnf)
        | (refine And.intro (fit1 hlc (by decide)) ?_; conv => whnf)
        | (refine And.intro (fit1 hbl (by decide)) ?_; conv => whnf)
        | (refine And.intro (fit1 rfl (by decide)) ?_; conv => whnf)
        | (refine ⟨_, sum_cell s25, rfl, ?_⟩; conv => whnf)
        | (refine ⟨_, set_n _, ?_⟩; conv => whnf)
        | (refine ⟨_, set_mn _, ?_⟩; conv => whnf)
        | (refine ⟨_, set_mx _, ?_⟩; conv => whnf)
        | (refine ⟨_, set_ce _, ?_⟩; conv => whnf)
        | (refine ⟨_, set_po _, ?_⟩; conv => whnf)
        | (refine ⟨_, set_s _, ?_⟩; conv => whnf)
        | (refine ⟨_, set_hi _, ?_⟩; conv => whnf)
        | (refine ⟨_, set_lo _, ?_⟩; conv => whnf)
        | (refine ⟨_, hist_cell s69 hbl, whole_len s69 hbl, ?_⟩; conv => whnf)
        | (refine ⟨_, hist_cell s69 hlc, whole_len s69 hlc, ?_⟩; conv => whnf)
        | (refine And.intro (fun _ => ?_) tf; conv => whnf)
        | (refine And.intro ft (fun _ => ?_); conv => whnf)
        | (refine And.intro (by kernel_rfl) ?_; conv => whnf)
        | (refine And.intro (by decide) ?_; conv => whnf)
        | (refine And.intro (fun _ => ?_) (fun h => absurd h (by decide)); conv => whnf)
        | (refine And.intro (fun h => absurd h (by decide)) (fun _ => ?_); conv => whnf)
        | (refine And.intro (fun _ => ?_) (fun _ => ?_) <;> conv => whnf)
        | (refine ⟨_, _, alive21.pu rfl rfl, ?_⟩; conv => whnf)
        | (refine ⟨_, _, r1.pu rfl rfl, ?_⟩; conv => whnf)
        | (refine ⟨_, _, n1.pu rfl rfl, ?_⟩; conv => whnf)
        | (refine ⟨_, _, neS (by kernel_rfl), ?_⟩; conv => whnf)
        | (refine ⟨_, _, neB (by kernel_rfl), ?_⟩; conv => whnf)
        | (refine ⟨_, _, neHH hlc, ?_⟩; conv => whnf)))
      all_goals try (refine Or.inl ?_; conv => whnf)
    all_goals try exact (neq_self wA ‹_›).elim
    all_goals try exact (no_way (a := c.s) (b := c.s) rfl ‹_›).elim
    all_goals try (exfalso; simp only [decide_eq_true_eq, decide_eq_false_iff_not, Bool.not_eq_true', Bool.not_eq_false', Bool.not_eq_true, Bool.not_eq_false, beq_iff_eq, bne_iff_ne, beq_eq_false_iff_ne, bne_eq_false_iff_eq, ne_eq, Decidable.not_not] at *; first | omega | contradiction | (simp_all; done) | (simp_all; omega))
    refine ⟨Nat × Cel, fun y => y.1 ≤ l.length ∧ Mid2 c y.2 y.1, fun y => ([(10, iA y.1), (8, .ptr 2 0), (7, .ptr 1 0), (3, .ptr 0 0), (2, bA false), (1, .d (lD l))], [.row (cR c), .row (cR y.2), .row (cR (cn false y.2))]), fun y => l.length - y.1, ⟨(0, c), ⟨Nat.zero_le _, ⟨hc, hR, by simp, rfl, rfl, by show _ ≤ hiZ c.s; omega, by show hiZ c.s ≤ _; omega⟩⟩, ?_⟩, ?_⟩
    · all_goals refine ⟨[], ?_⟩
      repeat (any_goals (first | exact True.intro | exact rfl | with_reducible_and_instances rfl | exact (by kernel_rfl) | refine And.intro ?_ ?_))
      all_goals conv => whnf
    rintro ⟨i, a⟩ ⟨hi, hmid⟩
    have hi : i ≤ l.length := hi
    have hmid : Mid2 c a i := hmid
    have oa := hmid.ok
    have ob := cn_ok (b := false) oa hmid.r (by rw [hmid.ce]; exact hce) (by rw [hmid.po]; exact hpo)
    have la := oa.hl
    have lb := ob.hl
    conv => whnf
    by_cases hlt : i < l.length
    · have hx : l[i]? = some l[i] := List.getElem?_eq_getElem hlt
      have hv := hl _ (List.getElem_mem hlt)
      generalize l[i] = v at hx hv
      obtain ⟨e1, mid'⟩ := hmid.next hv g3 (by omega)
      have e2 := hmid.next2 (b := false) hv g3 (by omega) hce hpo
      have a1 := add_sat_c a v oa hv
      have a2 := add_sat_c (cn false a) v ob hv
      rw [e1] at a1
      rw [e2] at a2
      have q1 := mid'.ce
      have q2 := mid'.po
      have ob' := cn_ok (b := false) mid'.ok mid'.r (by rw [mid'.ce]; exact hce) (by rw [mid'.po]; exact hpo)
      have la' := mid'.ok.hl
      have lb' := ob'.hl
      generalize ad v a = a' at *
      iterate 8
        repeat (any_goals (first
          | exact True.intro
          | (refine ⟨i, _, rfl, map_lR_get hx, ?_⟩; conv => whnf)
          | (refine And.intro (cell_fit la' la) ?_; conv => whnf)
          | (refine ⟨_, cell_sets la la', ?_⟩; conv => whnf)
          | (refine And.intro (cell_fit lb' lb) ?_; conv => whnf)
          | (refine ⟨_, cell_sets lb lb', ?_⟩; conv => whnf)
          | (refine ⟨_, drop_id, ?_⟩; conv => whnf)
          | (refine ⟨_, _, at_n, ?_⟩; conv => whnf)
          | (refine ⟨_, _, at_hi, ?_⟩; conv => whnf)
          | (refine ⟨_, _, at_lo, ?_⟩; conv => whnf)
          | (refine ⟨_, _, at_mn, ?_⟩; conv => whnf)
          | (refine ⟨_, _, at_mx, ?_⟩; conv => whnf)
          | (refine ⟨_, _, at_ce, ?_⟩; conv => whnf)
          | (refine ⟨_, _, at_po, ?_⟩; conv => whnf)
          | (refine ⟨_, whole_z sC, clenz sC, ?_⟩; conv => whnf)
          | (refine ⟨_, setzC, ?_⟩; conv => whnf)
          | (refine And.intro (clenz sC) ?_; conv => whnf)
          | (refine And.intro fitzC ?_; conv => whnf)
          | (refine ⟨_, whole_cell sC la, clen sC la, ?_⟩; conv => whnf)
          | (refine And.intro (clen sC la) ?_; conv => whnf)
          | (refine And.intro (fitC la) ?_; conv => whnf)
          | (refine ⟨_, setC la, ?_⟩; conv => whnf)
          | (refine ⟨_, whole_cell sC lb, clen sC lb, ?_⟩; conv => whnf)
          | (refine And.intro (clen sC lb) ?_; conv => whnf)
          | (refine And.intro (fitC lb) ?_; conv => whnf)
          | (refine ⟨_, setC lb, ?_⟩; conv => whnf)
          | (refine ⟨_, whole_cell sC la', clen sC la', ?_⟩; conv => whnf)
          | (refine And.intro (clen sC la') ?_; conv => whnf)
          | (refine And.intro (fitC la') ?_; conv => whnf)
          | (refine ⟨_, setC la', ?_⟩; conv => whnf)
          | (refine ⟨_, whole_cell sC lb', clen sC lb', ?_⟩; conv => whnf)
          | (refine And.intro (clen sC lb') ?_; conv => whnf)
          | (refine And.intro (fitC lb') ?_; conv => whnf)
          | (refine ⟨_, setC lb', ?_⟩; conv => whnf)
          | (refine ⟨_, whole_cell sC hlc, clen sC hlc, ?_⟩; conv => whnf)
          | (refine And.intro (clen sC hlc) ?_; conv => whnf)
          | (refine And.intro (fitC hlc) ?_; conv => whnf)
          | (refine ⟨_, setC hlc, ?_⟩; conv => whnf)
          | (refine ⟨_, whole_z sF, clenz sF, ?_⟩; conv => whnf)
          | (refine ⟨_, setzF, ?_⟩; conv => whnf)
          | (refine And.intro (clenz sF) ?_; conv => whnf)
          | (refine And.intro fitzF ?_; conv => whnf)
          | (refine ⟨_, whole_cell sF la, clen sF la, ?_⟩; conv => whnf)
          | (refine And.intro (clen sF la) ?_; conv => whnf)
          | (refine And.intro (fitF la) ?_; conv => whnf)
          | (refine ⟨_, setF la, ?_⟩; conv => whnf)
          | (refine ⟨_, whole_cell sF lb, clen sF lb, ?_⟩; conv => whnf)
          | (refine And.intro (clen sF lb) ?_; conv => whnf)
          | (refine And.intro (fitF lb) ?_; conv => whnf)
          | (refine ⟨_, setF lb, ?_⟩; conv => whnf)
          | (refine ⟨_, whole_cell sF la', clen sF la', ?_⟩; conv => whnf)
          | (refine And.intro (clen sF la') ?_; conv => whnf)
          | (refine And.intro (fitF la') ?_; conv => whnf)
          | (refine ⟨_, setF la', ?_⟩; conv => whnf)
          | (refine ⟨_, whole_cell sF lb', clen sF lb', ?_⟩; conv => whnf)
          | (refine And.intro (clen sF lb') ?_; conv => whnf)
          | (refine And.intro (fitF lb') ?_; conv => whnf)
          | (refine ⟨_, setF lb', ?_⟩; conv => whnf)
          | (refine ⟨_, whole_cell sF hlc, clen sF hlc, ?_⟩; conv => whnf)
          | (refine And.intro (clen sF hlc) ?_; conv => whnf)
          | (refine And.intro (fitF hlc) ?_; conv => whnf)
          | (refine ⟨_, setF hlc, ?_⟩; conv => whnf)
          | (refine And.intro (fit1 la (by decide)) ?_; conv => whnf)
          | (refine And.intro (fit1 lb (by decide)) ?_; conv => whnf)
          | (refine And.intro (fit1 la' (by decide)) ?_; conv => whnf)
          | (refine And.intro (fit1 lb' (by decide)) ?_; conv => whnf)
          | (refine And.intro (fit1 hlc (by decide)) ?_; conv => whnf)
          | (refine And.intro (fit1 rfl (by decide)) ?_; conv => whnf)
          | (refine ⟨_, sum_cell s25, rfl, ?_⟩; conv => whnf)
          | (refine ⟨_, set_n _, ?_⟩; conv => whnf)
          | (refine ⟨_, set_mn _, ?_⟩; conv => whnf)
          | (refine ⟨_, set_mx _, ?_⟩; conv => whnf)
          | (refine ⟨_, set_ce _, ?_⟩; conv => whnf)
          | (refine ⟨_, set_po _, ?_⟩; conv => whnf)
          | (refine ⟨_, set_s _, ?_⟩; conv => whnf)
          | (refine ⟨_, set_hi _, ?_⟩; conv => whnf)
          | (refine ⟨_, set_lo _, ?_⟩; conv => whnf)
          | (refine And.intro (fun _ => ?_) tf; conv => whnf)
          | (refine And.intro ft (fun _ => ?_); conv => whnf)
          | (refine And.intro (by kernel_rfl) ?_; conv => whnf)
          | (refine And.intro (by decide) ?_; conv => whnf)
          | (refine And.intro (fun _ => ?_) (fun h => absurd h (by decide)); conv => whnf)
          | (refine And.intro (fun h => absurd h (by decide)) (fun _ => ?_); conv => whnf)
          | (refine And.intro (fun _ => ?_) (fun _ => ?_) <;> conv => whnf)
          | (refine ⟨_, _, a1.pu rfl rfl, ?_⟩; conv => whnf)
          | (refine ⟨_, _, a2.pu rfl rfl, ?_⟩; conv => whnf)))
        all_goals try (refine Or.inl ?_; conv => whnf)
      all_goals try exact (neq_self q1 ‹_›).elim
      all_goals try exact (neq_self q2 ‹_›).elim
      all_goals try (exfalso; simp only [decide_eq_true_eq, decide_eq_false_iff_not, Bool.not_eq_true', Bool.not_eq_false', Bool.not_eq_true, Bool.not_eq_false, beq_iff_eq, bne_iff_ne, beq_eq_false_iff_ne, bne_eq_false_iff_eq, ne_eq, Decidable.not_not] at *; first | omega | contradiction | (simp_all; done) | (simp_all; omega))
      refine ⟨(i + 1, a'), ⟨hlt, mid'⟩, show l.length - (i + 1) < l.length - i by omega, ?_⟩
      all_goals refine ⟨[], ?_⟩
      repeat (any_goals (first | exact True.intro | exact rfl | with_reducible_and_instances rfl | exact (by kernel_rfl) | refine And.intro ?_ ?_))
      all_goals conv => whnf
      exact wk1 (by omega)
    · have n2 := note_sat a false oa (right_sat_c a oa)
      rw [note_cn hmid.r (by rw [hmid.ce]; exact hce) (by rw [hmid.po]; exact hpo)] at n2
      iterate 4
        repeat (any_goals (first
          | exact True.intro
          | (refine ⟨_, drop_id, ?_⟩; conv => whnf)
          | (refine ⟨_, _, at_n, ?_⟩; conv => whnf)
          | (refine ⟨_, _, at_hi, ?_⟩; conv => whnf)
          | (refine ⟨_, _, at_lo, ?_⟩; conv => whnf)
          | (refine ⟨_, _, at_mn, ?_⟩; conv => whnf)
          | (refine ⟨_, _, at_mx, ?_⟩; conv => whnf)
          | (refine ⟨_, _, at_ce, ?_⟩; conv => whnf)
          | (refine ⟨_, _, at_po, ?_⟩; conv => whnf)
          | (refine ⟨_, whole_z sC, clenz sC, ?_⟩; conv => whnf)
          | (refine ⟨_, setzC, ?_⟩; conv => whnf)
          | (refine And.intro (clenz sC) ?_; conv => whnf)
          | (refine And.intro fitzC ?_; conv => whnf)
          | (refine ⟨_, whole_cell sC la, clen sC la, ?_⟩; conv => whnf)
          | (refine And.intro (clen sC la) ?_; conv => whnf)
          | (refine And.intro (fitC la) ?_; conv => whnf)
          | (refine ⟨_, setC la, ?_⟩; conv => whnf)
          | (refine ⟨_, whole_cell sC lb, clen sC lb, ?_⟩; conv => whnf)
          | (refine And.intro (clen sC lb) ?_; conv => whnf)
          | (refine And.intro (fitC lb) ?_; conv => whnf)
          | (refine ⟨_, setC lb, ?_⟩; conv => whnf)
          | (refine ⟨_, whole_z sF, clenz sF, ?_⟩; conv => whnf)
          | (refine ⟨_, setzF, ?_⟩; conv => whnf)
          | (refine And.intro (clenz sF) ?_; conv => whnf)
          | (refine And.intro fitzF ?_; conv => whnf)
          | (refine ⟨_, whole_cell sF la, clen sF la, ?_⟩; conv => whnf)
          | (refine And.intro (clen sF la) ?_; conv => whnf)
          | (refine And.intro (fitF la) ?_; conv => whnf)
          | (refine ⟨_, setF la, ?_⟩; conv => whnf)
          | (refine ⟨_, whole_cell sF lb, clen sF lb, ?_⟩; conv => whnf)
          | (refine And.intro (clen sF lb) ?_; conv => whnf)
          | (refine And.intro (fitF lb) ?_; conv => whnf)
          | (refine ⟨_, setF lb, ?_⟩; conv => whnf)
          | (refine And.intro (fit1 la (by decide)) ?_; conv => whnf)
          | (refine And.intro (fit1 lb (by decide)) ?_; conv => whnf)
          | (refine And.intro (fit1 rfl (by decide)) ?_; conv => whnf)
          | (refine ⟨_, sum_cell s25, rfl, ?_⟩; conv => whnf)
          | (refine ⟨_, set_n _, ?_⟩; conv => whnf)
          | (refine ⟨_, set_mn _, ?_⟩; conv => whnf)
          | (refine ⟨_, set_mx _, ?_⟩; conv => whnf)
          | (refine ⟨_, set_ce _, ?_⟩; conv => whnf)
          | (refine ⟨_, set_po _, ?_⟩; conv => whnf)
          | (refine ⟨_, set_s _, ?_⟩; conv => whnf)
          | (refine ⟨_, set_hi _, ?_⟩; conv => whnf)
          | (refine ⟨_, set_lo _, ?_⟩; conv => whnf)
          | (refine And.intro (fun _ => ?_) tf; conv => whnf)
          | (refine And.intro ft (fun _ => ?_); conv => whnf)
          | (refine And.intro (by kernel_rfl) ?_; conv => whnf)
          | (refine And.intro (by decide) ?_; conv => whnf)
          | (refine And.intro (fun _ => ?_) (fun h => absurd h (by decide)); conv => whnf)
          | (refine And.intro (fun h => absurd h (by decide)) (fun _ => ?_); conv => whnf)
          | (refine And.intro (fun _ => ?_) (fun _ => ?_) <;> conv => whnf)
          | (refine ⟨_, _, n2.pu rfl rfl, ?_⟩; conv => whnf)
          | (refine ⟨_, _, eqCC ob ob, ?_⟩; conv => whnf)))
        all_goals try (exfalso; simp only [decide_eq_true_eq, decide_eq_false_iff_not, Bool.not_eq_true', Bool.not_eq_false', Bool.not_eq_true, Bool.not_eq_false, beq_iff_eq, bne_iff_ne, beq_eq_false_iff_ne, bne_eq_false_iff_eq, ne_eq, Decidable.not_not] at *; first | omega | contradiction | (simp_all; done) | (simp_all; omega))
        all_goals try (refine Or.inl ?_; conv => whnf)
      all_goals refine ⟨[], ?_⟩
      repeat (any_goals (first | exact True.intro | exact rfl | with_reducible_and_instances rfl | exact (by kernel_rfl) | refine And.intro ?_ ?_))
      all_goals conv => whnf
      exact congrArg bA (decide_eq_true rfl)
  · have wA : IntKind.i64.wrap (c.ce + 1 + c.po) = IntKind.i64.wrap (IntKind.i64.wrap (c.ce + c.po) + 1) := by rw [w1, w2, wi (by omega) (by omega)]; omega
    iterate 6
      repeat (any_goals (first
        | exact True.intro
        | (refine ⟨_, drop_id, ?_⟩; conv => whnf)
        | (refine ⟨_, _, at_n, ?_⟩; conv => whnf)
        | (refine ⟨_, _, at_hi, ?_⟩; conv => whnf)
        | (refine ⟨_, _, at_lo, ?_⟩; conv => whnf)
        | (refine ⟨_, _, at_mn, ?_⟩; conv => whnf)
        | (refine ⟨_, _, at_mx, ?_⟩; conv => whnf)
        | (refine ⟨_, _, at_ce, ?_⟩; conv => whnf)
        | (refine ⟨_, _, at_po, ?_⟩; conv => whnf)
        | (refine ⟨_, whole_z sC, clenz sC, ?_⟩; conv => whnf)
        | (refine ⟨_, setzC, ?_⟩; conv => whnf)
        | (refine And.intro (clenz sC) ?_; conv => whnf)
        | (refine And.intro fitzC ?_; conv => whnf)
        | (refine ⟨_, whole_cell sC hlc, clen sC hlc, ?_⟩; conv => whnf)
        | (refine And.intro (clen sC hlc) ?_; conv => whnf)
        | (refine And.intro (fitC hlc) ?_; conv => whnf)
        | (refine ⟨_, setC hlc, ?_⟩; conv => whnf)
        | (refine ⟨_, whole_cell sC hbl, clen sC hbl, ?_⟩; conv => whnf)
        | (refine And.intro (clen sC hbl) ?_; conv => whnf)
        | (refine And.intro (fitC hbl) ?_; conv => whnf)
        | (refine ⟨_, setC hbl, ?_⟩; conv => whnf)
        | (refine ⟨_, whole_z sF, clenz sF, ?_⟩; conv => whnf)
        | (refine ⟨_, setzF, ?_⟩; conv => whnf)
        | (refine And.intro (clenz sF) ?_; conv => whnf)
        | (refine And.intro fitzF ?_; conv => whnf)
        | (refine ⟨_, whole_cell sF hlc, clen sF hlc, ?_⟩; conv => whnf)
        | (refine And.intro (clen sF hlc) ?_; conv => whnf)
        | (refine And.intro (fitF hlc) ?_; conv => whnf)
        | (refine ⟨_, setF hlc, ?_⟩; conv => whnf)
        | (refine ⟨_, whole_cell sF hbl, clen sF hbl, ?_⟩; conv => whnf)
        | (refine And.intro (clen sF hbl) ?_; conv => whnf)
        | (refine And.intro (fitF hbl) ?_; conv => whnf)
        | (refine ⟨_, setF hbl, ?_⟩; conv => whnf)
        | (refine And.intro (fit1 hlc (by decide)) ?_; conv => whnf)
        | (refine And.intro (fit1 hbl (by decide)) ?_; conv => whnf)
        | (refine And.intro (fit1 rfl (by decide)) ?_; conv => whnf)
        | (refine ⟨_, sum_cell s25, rfl, ?_⟩; conv => whnf)
        | (refine ⟨_, set_n _, ?_⟩; conv => whnf)
        | (refine ⟨_, set_mn _, ?_⟩; conv => whnf)
        | (refine ⟨_, set_mx _, ?_⟩; conv => whnf)
        | (refine ⟨_, set_ce _, ?_⟩; conv => whnf)
        | (refine ⟨_, set_po _, ?_⟩; conv => whnf)
        | (refine ⟨_, set_s _, ?_⟩; conv => whnf)
        | (refine ⟨_, set_hi _, ?_⟩; conv => whnf)
        | (refine ⟨_, set_lo _, ?_⟩; conv => whnf)
        | (refine ⟨_, hist_cell s69 hbl, whole_len s69 hbl, ?_⟩; conv => whnf)
        | (refine ⟨_, hist_cell s69 hlc, whole_len s69 hlc, ?_⟩; conv => whnf)
        | (refine And.intro (fun _ => ?_) tf; conv => whnf)
        | (refine And.intro ft (fun _ => ?_); conv => whnf)
        | (refine And.intro (by kernel_rfl) ?_; conv => whnf)
        | (refine And.intro (by decide) ?_; conv => whnf)
        | (refine And.intro (fun _ => ?_) (fun h => absurd h (by decide)); conv => whnf)
        | (refine And.intro (fun h => absurd h (by decide)) (fun _ => ?_); conv => whnf)
        | (refine And.intro (fun _ => ?_) (fun _ => ?_) <;> conv => whnf)
        | (refine ⟨_, _, alive21.pu rfl rfl, ?_⟩; conv => whnf)
        | (refine ⟨_, _, r1.pu rfl rfl, ?_⟩; conv => whnf)
        | (refine ⟨_, _, n1.pu rfl rfl, ?_⟩; conv => whnf)
        | (refine ⟨_, _, neS (by kernel_rfl), ?_⟩; conv => whnf)
        | (refine ⟨_, _, neB (by kernel_rfl), ?_⟩; conv => whnf)
        | (refine ⟨_, _, neHH hlc, ?_⟩; conv => whnf)))
      all_goals try (refine Or.inl ?_; conv => whnf)
    all_goals try exact (neq_self wA ‹_›).elim
    all_goals try exact (no_way (a := c.s) (b := c.s) rfl ‹_›).elim
    all_goals try (exfalso; simp only [decide_eq_true_eq, decide_eq_false_iff_not, Bool.not_eq_true', Bool.not_eq_false', Bool.not_eq_true, Bool.not_eq_false, beq_iff_eq, bne_iff_ne, beq_eq_false_iff_ne, bne_eq_false_iff_eq, ne_eq, Decidable.not_not] at *; first | omega | contradiction | (simp_all; done) | (simp_all; omega))
    refine ⟨Nat × Cel, fun y => y.1 ≤ l.length ∧ Mid2 c y.2 y.1, fun y => ([(10, iA y.1), (8, .ptr 2 0), (7, .ptr 1 0), (3, .ptr 0 0), (2, bA true), (1, .d (lD l))], [.row (cR c), .row (cR y.2), .row (cR (cn true y.2))]), fun y => l.length - y.1, ⟨(0, c), ⟨Nat.zero_le _, ⟨hc, hR, by simp, rfl, rfl, by show _ ≤ hiZ c.s; omega, by show hiZ c.s ≤ _; omega⟩⟩, ?_⟩, ?_⟩
    · all_goals refine ⟨[], ?_⟩
      repeat (any_goals (first | exact True.intro | exact rfl | with_reducible_and_instances rfl | exact (by kernel_rfl) | refine And.intro ?_ ?_))
      all_goals conv => whnf
    rintro ⟨i, a⟩ ⟨hi, hmid⟩
    have hi : i ≤ l.length := hi
    have hmid : Mid2 c a i := hmid
    have oa := hmid.ok
    have ob := cn_ok (b := true) oa hmid.r (by rw [hmid.ce]; exact hce) (by rw [hmid.po]; exact hpo)
    have la := oa.hl
    have lb := ob.hl
    conv => whnf
    by_cases hlt : i < l.length
    · have hx : l[i]? = some l[i] := List.getElem?_eq_getElem hlt
      have hv := hl _ (List.getElem_mem hlt)
      generalize l[i] = v at hx hv
      obtain ⟨e1, mid'⟩ := hmid.next hv g3 (by omega)
      have e2 := hmid.next2 (b := true) hv g3 (by omega) hce hpo
      have a1 := add_sat_c a v oa hv
      have a2 := add_sat_c (cn true a) v ob hv
      rw [e1] at a1
      rw [e2] at a2
      have q1 := mid'.ce
      have q2 := mid'.po
      have ob' := cn_ok (b := true) mid'.ok mid'.r (by rw [mid'.ce]; exact hce) (by rw [mid'.po]; exact hpo)
      have la' := mid'.ok.hl
      have lb' := ob'.hl
      generalize ad v a = a' at *
      iterate 8
        repeat (any_goals (first
          | exact True.intro
          | (refine ⟨i, _, rfl, map_lR_get hx, ?_⟩; conv => whnf)
          | (refine And.intro (cell_fit la' la) ?_; conv => whnf)
          | (refine ⟨_, cell_sets la la', ?_⟩; conv => whnf)
          | (refine And.intro (cell_fit lb' lb) ?_; conv => whnf)
          | (refine ⟨_, cell_sets lb lb', ?_⟩; conv => whnf)
          | (refine ⟨_, drop_id, ?_⟩; conv => whnf)
          | (refine ⟨_, _, at_n, ?_⟩; conv => whnf)
          | (refine ⟨_, _, at_hi, ?_⟩; conv => whnf)
          | (refine ⟨_, _, at_lo, ?_⟩; conv => whnf)
          | (refine ⟨_, _, at_mn, ?_⟩; conv => whnf)
          | (refine ⟨_, _, at_mx, ?_⟩; conv => whnf)
          | (refine ⟨_, _, at_ce, ?_⟩; conv => whnf)
          | (refine ⟨_, _, at_po, ?_⟩; conv => whnf)
          | (refine ⟨_, whole_z sC, clenz sC, ?_⟩; conv => whnf)
          | (refine ⟨_, setzC, ?_⟩; conv => whnf)
          | (refine And.intro (clenz sC) ?_; conv => whnf)
          | (refine And.intro fitzC ?_; conv => whnf)
          | (refine ⟨_, whole_cell sC la, clen sC la, ?_⟩; conv => whnf)
          | (refine And.intro (clen sC la) ?_; conv => whnf)
          | (refine And.intro (fitC la) ?_; conv => whnf)
          | (refine ⟨_, setC la, ?_⟩; conv => whnf)
          | (refine ⟨_, whole_cell sC lb, clen sC lb, ?_⟩; conv => whnf)
          | (refine And.intro (clen sC lb) ?_; conv => whnf)
          | (refine And.intro (fitC lb) ?_; conv => whnf)
          | (refine ⟨_, setC lb, ?_⟩; conv => whnf)
          | (refine ⟨_, whole_cell sC la', clen sC la', ?_⟩; conv => whnf)
          | (refine And.intro (clen sC la') ?_; conv => whnf)
          | (refine And.intro (fitC la') ?_; conv => whnf)
          | (refine ⟨_, setC la', ?_⟩; conv => whnf)
          | (refine ⟨_, whole_cell sC lb', clen sC lb', ?_⟩; conv => whnf)
          | (refine And.intro (clen sC lb') ?_; conv => whnf)
          | (refine And.intro (fitC lb') ?_; conv => whnf)
          | (refine ⟨_, setC lb', ?_⟩; conv => whnf)
          | (refine ⟨_, whole_cell sC hlc, clen sC hlc, ?_⟩; conv => whnf)
          | (refine And.intro (clen sC hlc) ?_; conv => whnf)
          | (refine And.intro (fitC hlc) ?_; conv => whnf)
          | (refine ⟨_, setC hlc, ?_⟩; conv => whnf)
          | (refine ⟨_, whole_z sF, clenz sF, ?_⟩; conv => whnf)
          | (refine ⟨_, setzF, ?_⟩; conv => whnf)
          | (refine And.intro (clenz sF) ?_; conv => whnf)
          | (refine And.intro fitzF ?_; conv => whnf)
          | (refine ⟨_, whole_cell sF la, clen sF la, ?_⟩; conv => whnf)
          | (refine And.intro (clen sF la) ?_; conv => whnf)
          | (refine And.intro (fitF la) ?_; conv => whnf)
          | (refine ⟨_, setF la, ?_⟩; conv => whnf)
          | (refine ⟨_, whole_cell sF lb, clen sF lb, ?_⟩; conv => whnf)
          | (refine And.intro (clen sF lb) ?_; conv => whnf)
          | (refine And.intro (fitF lb) ?_; conv => whnf)
          | (refine ⟨_, setF lb, ?_⟩; conv => whnf)
          | (refine ⟨_, whole_cell sF la', clen sF la', ?_⟩; conv => whnf)
          | (refine And.intro (clen sF la') ?_; conv => whnf)
          | (refine And.intro (fitF la') ?_; conv => whnf)
          | (refine ⟨_, setF la', ?_⟩; conv => whnf)
          | (refine ⟨_, whole_cell sF lb', clen sF lb', ?_⟩; conv => whnf)
          | (refine And.intro (clen sF lb') ?_; conv => whnf)
          | (refine And.intro (fitF lb') ?_; conv => whnf)
          | (refine ⟨_, setF lb', ?_⟩; conv => whnf)
          | (refine ⟨_, whole_cell sF hlc, clen sF hlc, ?_⟩; conv => whnf)
          | (refine And.intro (clen sF hlc) ?_; conv => whnf)
          | (refine And.intro (fitF hlc) ?_; conv => whnf)
          | (refine ⟨_, setF hlc, ?_⟩; conv => whnf)
          | (refine And.intro (fit1 la (by decide)) ?_; conv => whnf)
          | (refine And.intro (fit1 lb (by decide)) ?_; conv => whnf)
          | (refine And.intro (fit1 la' (by decide)) ?_; conv => whnf)
          | (refine And.intro (fit1 lb' (by decide)) ?_; conv => whnf)
          | (refine And.intro (fit1 hlc (by decide)) ?_; conv => whnf)
          | (refine And.intro (fit1 rfl (by decide)) ?_; conv => whnf)
          | (refine ⟨_, sum_cell s25, rfl, ?_⟩; conv => whnf)
          | (refine ⟨_, set_n _, ?_⟩; conv => whnf)
          | (refine ⟨_, set_mn _, ?_⟩; conv => whnf)
          | (refine ⟨_, set_mx _, ?_⟩; conv => whnf)
          | (refine ⟨_, set_ce _, ?_⟩; conv => whnf)
          | (refine ⟨_, set_po _, ?_⟩; conv => whnf)
          | (refine ⟨_, set_s _, ?_⟩; conv => whnf)
          | (refine ⟨_, set_hi _, ?_⟩; conv => whnf)
          | (refine ⟨_, set_lo _, ?_⟩; conv => whnf)
          | (refine And.intro (fun _ => ?_) tf; conv => whnf)
          | (refine And.intro ft (fun _ => ?_); conv => whnf)
          | (refine And.intro (by kernel_rfl) ?_; conv => whnf)
          | (refine And.intro (by decide) ?_; conv => whnf)
          | (refine And.intro (fun _ => ?_) (fun h => absurd h (by decide)); conv => whnf)
          | (refine And.intro (fun h => absurd h (by decide)) (fun _ => ?_); conv => whnf)
          | (refine And.intro (fun _ => ?_) (fun _ => ?_) <;> conv => whnf)
          | (refine ⟨_, _, a1.pu rfl rfl, ?_⟩; conv => whnf)
          | (refine ⟨_, _, a2.pu rfl rfl, ?_⟩; conv => whnf)))
        all_goals try (refine Or.inl ?_; conv => whnf)
      all_goals try exact (neq_self q1 ‹_›).elim
      all_goals try exact (neq_self q2 ‹_›).elim
      all_goals try (exfalso; simp only [decide_eq_true_eq, decide_eq_false_iff_not, Bool.not_eq_true', Bool.not_eq_false', Bool.not_eq_true, Bool.not_eq_false, beq_iff_eq, bne_iff_ne, beq_eq_false_iff_ne, bne_eq_false_iff_eq, ne_eq, Decidable.not_not] at *; first | omega | contradiction | (simp_all; done) | (simp_all; omega))
      refine ⟨(i + 1, a'), ⟨hlt, mid'⟩, show l.length - (i + 1) < l.length - i by omega, ?_⟩
      all_goals refine ⟨[], ?_⟩
      repeat (any_goals (first | exact True.intro | exact rfl | with_reducible_and_instances rfl | exact (by kernel_rfl) | refine And.intro ?_ ?_))
      all_goals conv => whnf
      exact wk1 (by omega)
    · have n2 := note_sat a true oa (right_sat_c a oa)
      rw [note_cn hmid.r (by rw [hmid.ce]; exact hce) (by rw [hmid.po]; exact hpo)] at n2
      iterate 4
        repeat (any_goals (first
          | exact True.intro
          | (refine ⟨_, drop_id, ?_⟩; conv => whnf)
          | (refine ⟨_, _, at_n, ?_⟩; conv => whnf)
          | (refine ⟨_, _, at_hi, ?_⟩; conv => whnf)
          | (refine ⟨_, _, at_lo, ?_⟩; conv => whnf)
          | (refine ⟨_, _, at_mn, ?_⟩; conv => whnf)
          | (refine ⟨_, _, at_mx, ?_⟩; conv => whnf)
          | (refine ⟨_, _, at_ce, ?_⟩; conv => whnf)
          | (refine ⟨_, _, at_po, ?_⟩; conv => whnf)
          | (refine ⟨_, whole_z sC, clenz sC, ?_⟩; conv => whnf)
          | (refine ⟨_, setzC, ?_⟩; conv => whnf)
          | (refine And.intro (clenz sC) ?_; conv => whnf)
          | (refine And.intro fitzC ?_; conv => whnf)
          | (refine ⟨_, whole_cell sC la, clen sC la, ?_⟩; conv => whnf)
          | (refine And.intro (clen sC la) ?_; conv => whnf)
          | (refine And.intro (fitC la) ?_; conv => whnf)
          | (refine ⟨_, setC la, ?_⟩; conv => whnf)
          | (refine ⟨_, whole_cell sC lb, clen sC lb, ?_⟩; conv => whnf)
          | (refine And.intro (clen sC lb) ?_; conv => whnf)
          | (refine And.intro (fitC lb) ?_; conv => whnf)
          | (refine ⟨_, setC lb, ?_⟩; conv => whnf)
          | (refine ⟨_, whole_z sF, clenz sF, ?_⟩; conv => whnf)
          | (refine ⟨_, setzF, ?_⟩; conv => whnf)
          | (refine And.intro (clenz sF) ?_; conv => whnf)
          | (refine And.intro fitzF ?_; conv => whnf)
          | (refine ⟨_, whole_cell sF la, clen sF la, ?_⟩; conv => whnf)
          | (refine And.intro (clen sF la) ?_; conv => whnf)
          | (refine And.intro (fitF la) ?_; conv => whnf)
          | (refine ⟨_, setF la, ?_⟩; conv => whnf)
          | (refine ⟨_, whole_cell sF lb, clen sF lb, ?_⟩; conv => whnf)
          | (refine And.intro (clen sF lb) ?_; conv => whnf)
          | (refine And.intro (fitF lb) ?_; conv => whnf)
          | (refine ⟨_, setF lb, ?_⟩; conv => whnf)
          | (refine And.intro (fit1 la (by decide)) ?_; conv => whnf)
          | (refine And.intro (fit1 lb (by decide)) ?_; conv => whnf)
          | (refine And.intro (fit1 rfl (by decide)) ?_; conv => whnf)
          | (refine ⟨_, sum_cell s25, rfl, ?_⟩; conv => whnf)
          | (refine ⟨_, set_n _, ?_⟩; conv => whnf)
          | (refine ⟨_, set_mn _, ?_⟩; conv => whnf)
          | (refine ⟨_, set_mx _, ?_⟩; conv => whnf)
          | (refine ⟨_, set_ce _, ?_⟩; conv => whnf)
          | (refine ⟨_, set_po _, ?_⟩; conv => whnf)
          | (refine ⟨_, set_s _, ?_⟩; conv => whnf)
          | (refine ⟨_, set_hi _, ?_⟩; conv => whnf)
          | (refine ⟨_, set_lo _, ?_⟩; conv => whnf)
          | (refine And.intro (fun _ => ?_) tf; conv => whnf)
          | (refine And.intro ft (fun _ => ?_); conv => whnf)
          | (refine And.intro (by kernel_rfl) ?_; conv => whnf)
          | (refine And.intro (by decide) ?_; conv => whnf)
          | (refine And.intro (fun _ => ?_) (fun h => absurd h (by decide)); conv => whnf)
          | (refine And.intro (fun h => absurd h (by decide)) (fun _ => ?_); conv => whnf)
          | (refine And.intro (fun _ => ?_) (fun _ => ?_) <;> conv => whnf)
          | (refine ⟨_, _, n2.pu rfl rfl, ?_⟩; conv => whnf)
          | (refine ⟨_, _, eqCC ob ob, ?_⟩; conv => whnf)))
        all_goals try (exfalso; simp only [decide_eq_true_eq, decide_eq_false_iff_not, Bool.not_eq_true', Bool.not_eq_false', Bool.not_eq_true, Bool.not_eq_false, beq_iff_eq, bne_iff_ne, beq_eq_false_iff_ne, bne_eq_false_iff_eq, ne_eq, Decidable.not_not] at *; first | omega | contradiction | (simp_all; done) | (simp_all; omega))
        all_goals try (refine Or.inl ?_; conv => whnf)
      all_goals refine ⟨[], ?_⟩
      repeat (any_goals (first | exact True.intro | exact rfl | with_reducible_and_instances rfl | exact (by kernel_rfl) | refine And.intro ?_ ?_))
      all_goals conv => whnf
      exact congrArg bA (decide_eq_true rfl)
theorem notes21_law (H : Type) (enc : TypeId × Value → H) : LawWalk H enc Try.prog 6 Try.f6 :=
  lawWalk_of_sat (by kernel_rfl) fun args h => by
    obtain ⟨a, _, rfl, h1, h⟩ := h
    obtain ⟨b, _, rfl, h2, h⟩ := h
    obtain ⟨d, _, rfl, h3, h⟩ := h
    obtain rfl := h
    obtain ⟨c, rfl, hc⟩ := ty_cell h1
    obtain ⟨l, rfl, hl⟩ := ty_longs h2 Try.underlying22 Try.underlying2 (by kernel_rfl)
    obtain ⟨z, rfl⟩ := ty_bool h3 Try.underlying4
    exact notes_sat_c c l z hc hl
end Go.Proofs.Ytbjmdnemeidpjaa
/- Two closed facts on the program that every law's statement asks. -/
namespace Go.Proofs.Ytbjmdnemeidpjaa
set_option linter.unusedSimpArgs false
set_option linter.unusedVariables false
open Go.RowKit
theorem own : ownKnob Try.prog.godebug = none := by kernel_rfl
theorem laidOut : laidOutB Try.prog = true := by kernel_rfl
end Go.Proofs.Ytbjmdnemeidpjaa
