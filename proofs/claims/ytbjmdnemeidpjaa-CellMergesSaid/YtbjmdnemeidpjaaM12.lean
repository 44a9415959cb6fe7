/- Parts CeS, CeK, CeT, CeU, CeR of the proof, put together. -/
import Derived.Test.YtbjmdnemeidpjaaM11
/- The document's two: two cells together. -/
namespace Go.Proofs.Ytbjmdnemeidpjaa
set_option linter.unusedSimpArgs false
set_option linter.unusedVariables false
open Go.RowKit
set_option maxRecDepth 100000
def lowZ2 (a b : Cel) : Int := if b.n = 0 then a.mn else if a.n = 0 then b.mn else min a.mn b.mn
def highZ2 (a b : Cel) : Int := if b.n = 0 then a.mx else if a.n = 0 then b.mx else max a.mx b.mx
def fits2 (a b : Cel) : Prop := in64 (a.n + b.n) ∧ in64 (a.ce + b.ce) ∧ in64 (a.po + b.po) ∧ mergeE [a.h, b.h] = 0 ∧ in128 (a.s + b.s)
def join2 (a b : Cel) : Cel := ⟨a.n + b.n, a.s + b.s, lowZ2 a b, highZ2 a b, a.ce + b.ce, a.po + b.po, mergeR [a.h, b.h]⟩
theorem told_in {z : Int} (h : in64 z) : toldZ z = (z, 0) := by unfold toldZ; exact if_pos h
theorem told_out {z : Int} (h : ¬ in64 z) : toldZ z = (0, 12) := by unfold toldZ; exact if_neg h
theorem build_two {n s mn mx ce po : Int} {h : List Int} (hh : h.length = 65) :
    sets (sets (sets (sets (sets (sets (sets (sets (List.map D.v (tiOf Try.prog 32).zero) 0 [iD n]) 1 [iD (hiZ s)]) 2 [uZ (loZ s)]) 3 [iD mn]) 4 [iD mx]) 5 [iD ce]) 6 [iD po]) 7 (hR h) = cR ⟨n, s, mn, mx, ce, po, h⟩ := by
  rw [zeF]
  exact set_hh (n := n) (s := s) (mn := mn) (mx := mx) (ce := ce) (po := po) (h := z65) rfl hh
theorem few_in128 {z : Int} (h : in128 z) : few 8 z := by
  unfold in128 in64 hiZ word at h
  unfold few
  have e : (65536 : Nat) ^ 8 = 340282366920938463463374607431768211456 := by decide
  rw [e]; omega
set_option maxHeartbeats 16000000 in
theorem two_sat (a b : Cel) (ha : CelOK a) (hb : CelOK b) (hf : fits2 a b) : Sat Try.prog 45 [.d (cD a), .d (cD b)] [] (.tup [.d (cD (join2 a b)), iA 0]) [] := by
  obtain ⟨f1, f2, f3, f4, f5⟩ := hf
  have la := ha.hl
  have lb := hb.hl
  have p1 := plusL_sat a.n b.n ha.n hb.n
  have p2 := plusL_sat a.ce b.ce ha.ce hb.ce
  have p3 := plusL_sat a.po b.po ha.po hb.po
  rw [told_in f1] at p1
  rw [told_in f2] at p2
  rw [told_in f3] at p3
  have m1 := refMerge_sat [a.h, b.h] (by intro l hl; simp at hl; rcases hl with rfl | rfl; exact la; exact lb) (by intro l hl; simp at hl; rcases hl with rfl | rfl; exact ha.hx; exact hb.hx) (by simp)
  rw [f4] at m1
  have w1 := wide_num (hiZ a.s) (loZ a.s) ha.s (by unfold loZ word; omega) (by unfold loZ word; omega)
  have w2 := wide_num (hiZ b.s) (loZ b.s) hb.s (by unfold loZ word; omega) (by unfold loZ word; omega)
  rw [wide_split] at w1 w2
  have a1 := add_few (k := 8) (by omega) (few_in128 ha.s) (few_in128 hb.s)
  have w3 := words_num (a.s + b.s) (add_few_out (few_in128 ha.s) (few_in128 hb.s))
  rw [if_pos (show in64 (hiZ (a.s + b.s)) from f5)] at w3
  have hj : join2 a b = ⟨a.n + b.n, a.s + b.s, lowZ2 a b, highZ2 a b, a.ce + b.ce, a.po + b.po, mergeR [a.h, b.h]⟩ := rfl
  rw [hj]
  have hM := mergeR_len [a.h, b.h]
  generalize mergeR [a.h, b.h] = M at *
  generalize hS : a.s + b.s = S at *
  refine sat_of_vc (T := tiOf Try.prog) (E := E0) Try.func45 rfl rfl hE0 hm0 rfl ?_
  conv => whnf
  iterate 5
    repeat (any_goals (first
      | exact True.intro
      | (refine ⟨_, hist_cell s68 la, whole_len s68 la, ?_⟩; conv => whnf)
      | (refine ⟨_, hist_cell s68 lb, whole_len s68 lb, ?_⟩; conv => whnf)
      | (refine And.intro (whole_len rfl la) ?_; conv => whnf)
      | (refine And.intro (whole_len rfl lb) ?_; conv => whnf)
      | (refine And.intro (whole_len s68 hM) ?_; conv => whnf)
      | (refine And.intro (fit68 hM) ?_; conv => whnf)
      | (refine ⟨_, set68 hM, ?_⟩; conv => whnf)
      | (refine ⟨_, whole_row s68 hM, whole_len s68 hM, ?_⟩; conv => whnf)
      | (refine ⟨_, build_two hM, ?_⟩; conv => whnf)
      | (refine ⟨_, drop_id, ?_⟩; conv => whnf)
      | (refine ⟨_, _, at_n, ?_⟩; conv => whnf)
      | (refine ⟨_, _, at_hi, ?_⟩; conv => whnf)
      | (refine ⟨_, _, at_lo, ?_⟩; conv => whnf)
      | (refine ⟨_, _, at_mn, ?_⟩; conv => whnf)
      | (refine ⟨_, _, at_mx, ?_⟩; conv => whnf)
      | (refine ⟨_, _, at_ce, ?_⟩; conv => whnf)
      | (refine ⟨_, _, at_po, ?_⟩; conv => whnf)
      | (refine ⟨_, whole_z sC, clenz sC, ?_⟩; conv => whnf)
      | (refine ⟨_, setzC, ?_⟩; conv => whnf)
      | (refine And.intro (clenz sC) ?_; conv => whnf)
      | (refine And.intro fitzC ?_; conv => whnf)
      | (refine ⟨_, whole_cell sC la, clen sC la, ?_⟩; conv => whnf)
      | (refine And.intro (clen sC la) ?_; conv => whnf)
      | (refine And.intro (fitC la) ?_; conv => whnf)
      | (refine ⟨_, setC la, ?_⟩; conv => whnf)
      | (refine ⟨_, whole_cell sC lb, clen sC lb, ?_⟩; conv => whnf)
      | (refine And.intro (clen sC lb) ?_; conv => whnf)
      | (refine And.intro (fitC lb) ?_; conv => whnf)
      | (refine ⟨_, setC lb, ?_⟩; conv => whnf)
      | (refine ⟨_, whole_cell sC hM, clen sC hM, ?_⟩; conv => whnf)
      | (refine And.intro (clen sC hM) ?_; conv => whnf)
      | (refine And.intro (fitC hM) ?_; conv => whnf)
      | (refine ⟨_, setC hM, ?_⟩; conv => whnf)
      | (refine ⟨_, whole_z sF, clenz sF, ?_⟩; conv => whnf)
      | (refine ⟨_, setzF, ?_⟩; conv => whnf)
      | (refine And.intro (clenz sF) ?_; conv => whnf)
      | (refine And.intro fitzF ?_; conv => whnf)
      | (refine ⟨_, whole_cell sF la, clen sF la, ?_⟩; conv => whnf)
      | (refine And.intro (clen sF la) ?_; conv => whnf)
      | (refine And.intro (fitF la) ?_; conv => whnf)
      | (refine ⟨_, setF la, ?_⟩; conv => whnf)
      | (refine ⟨_, whole_cell sF lb, clen sF lb, ?_⟩; conv => whnf)
      | (refine And.intro (clen sF lb) ?_; conv => whnf)
      | (refine And.intro (fitF lb) ?_; conv => whnf)
      | (refine ⟨_, setF lb, ?_⟩; conv => whnf)
      | (refine ⟨_, whole_cell sF hM, clen sF hM, ?_⟩; conv => whnf)
      | (refine And.intro (clen sF hM) ?_; conv => whnf)
      | (refine And.intro (fitF hM) ?_; conv => whnf)
      | (refine ⟨_, setF hM, ?_⟩; conv => whnf)
      | (refine And.intro (fit1 la (by decide)) ?_; conv => whnf)
      | (refine And.intro (fit1 lb (by decide)) ?_; conv => whnf)
      | (refine And.intro (fit1 hM (by decide)) ?_; conv => whnf)
      | (refine And.intro (fit1 rfl (by decide)) ?_; conv => whnf)
      | (refine ⟨_, sum_cell s25, rfl, ?_⟩; conv => whnf)
      | (refine ⟨_, set_n _, ?_⟩; conv => whnf)
      | (refine ⟨_, set_mn _, ?_⟩; conv => whnf)
      | (refine ⟨_, set_mx _, ?_⟩; conv => whnf)
      | (refine ⟨_, set_ce _, ?_⟩; conv => whnf)
      | (refine ⟨_, set_po _, ?_⟩; conv => whnf)
      | (refine ⟨_, set_s _, ?_⟩; conv => whnf)
      | (refine ⟨_, set_hi _, ?_⟩; conv => whnf)
      | (refine ⟨_, set_lo _, ?_⟩; conv => whnf)
      | (refine And.intro (fun _ => ?_) tf; conv => whnf)
      | (refine And.intro ft (fun _ => ?_); conv => whnf)
      | (refine And.intro (by kernel_rfl) ?_; conv => whnf)
      | (refine And.intro (by decide) ?_; conv => whnf)
      | (refine And.intro (fun _ => ?_) (fun h => absurd h (by decide)); conv => whnf)
      | (refine And.intro (fun h => absurd h (by decide)) (fun _ => ?_); conv => whnf)
      | (refine And.intro (fun _ => ?_) (fun _ => ?_) <;> conv => whnf)
      | (refine ⟨_, _, p1.pu rfl rfl, ?_⟩; conv => whnf)
      | (refine ⟨_, _, p2.pu rfl rfl, ?_⟩; conv => whnf)
      | (refine ⟨_, _, p3.pu rfl rfl, ?_⟩; conv => whnf)
      | (refine ⟨_, _, lendO m1 rfl (flat_hE _ _), ?_⟩; conv => whnf)
      | (refine ⟨_, _, w1.pu rfl rfl, ?_⟩; conv => whnf)
      | (refine ⟨_, _, w2.pu rfl rfl, ?_⟩; conv => whnf)
      | (refine ⟨_, _, a1.pu rfl rfl, ?_⟩; conv => whnf)
      | (refine ⟨_, _, w3.pu rfl rfl, ?_⟩; conv => whnf)))
    all_goals try (exfalso; simp only [decide_eq_true_eq, decide_eq_false_iff_not, Bool.not_eq_true', Bool.not_eq_false', Bool.not_eq_true, Bool.not_eq_false, beq_iff_eq, bne_iff_ne, beq_eq_false_iff_ne, bne_eq_false_iff_eq, ne_eq, Decidable.not_not] at *; first | omega | contradiction | (simp_all; done) | (simp_all; omega))
    all_goals try (refine Or.inl ?_; conv => whnf)
  · have q : b.n = 0 := eq_of_beq ‹(b.n == 0) = true›
    unfold lowZ2 highZ2
    rw [if_pos q, if_pos q]
    all_goals refine ⟨[], ?_⟩
    repeat (any_goals (first | exact True.intro | exact rfl | with_reducible_and_instances rfl | exact (by kernel_rfl) | refine And.intro ?_ ?_))
    all_goals conv => whnf
  · have q : ¬ b.n = 0 := by have := ‹(b.n == 0) = false›; simpa using this
    have q2 : a.n = 0 := eq_of_beq ‹(a.n == 0) = true›
    unfold lowZ2 highZ2
    rw [if_neg q, if_neg q, if_pos q2, if_pos q2]
    all_goals refine ⟨[], ?_⟩
    repeat (any_goals (first | exact True.intro | exact rfl | with_reducible_and_instances rfl | exact (by kernel_rfl) | refine And.intro ?_ ?_))
    all_goals conv => whnf
  · have q : b.n = 0 := eq_of_beq ‹(b.n == 0) = true›
    unfold lowZ2 highZ2
    rw [if_pos q, if_pos q]
    all_goals refine ⟨[], ?_⟩
    repeat (any_goals (first | exact True.intro | exact rfl | with_reducible_and_instances rfl | exact (by kernel_rfl) | refine And.intro ?_ ?_))
    all_goals conv => whnf
  · have q : ¬ b.n = 0 := by have := ‹(b.n == 0) = false›; simpa using this
    have q2 : ¬ a.n = 0 := by have := ‹(a.n == 0) = false›; simpa using this
    unfold lowZ2 highZ2
    rw [if_neg q, if_neg q, if_neg q2, if_neg q2, min_if, max_if]
    all_goals refine ⟨[], ?_⟩
    repeat (any_goals (first | exact True.intro | exact rfl | with_reducible_and_instances rfl | exact (by kernel_rfl) | refine And.intro ?_ ?_))
    all_goals conv => whnf
theorem two_no {a b c : Int} {E : Nat} {B : Bool} (h : ¬ (a = 0 ∧ b = 0 ∧ c = 0 ∧ E = 0 ∧ B = true)) (h1 : (a != 0) = false) (h2 : (b != 0) = false) (h3 : (c != 0) = false) (h4 : ((E : Int) != 0) = false) (h5 : (!B) = false) : False := by
  simp at h1 h2 h3 h4 h5
  exact h ⟨h1, h2, h3, by omega, h5⟩
set_option maxHeartbeats 16000000 in
theorem two_err (a b : Cel) (ha : CelOK a) (hb : CelOK b) (hf : ¬ fits2 a b) : Sat Try.prog 45 [.d (cD a), .d (cD b)] [] (.tup [.d (cD zC), iA 12]) [] := by
  have la := ha.hl
  have lb := hb.hl
  have p1 := plusL_sat a.n b.n ha.n hb.n
  have p2 := plusL_sat a.ce b.ce ha.ce hb.ce
  have p3 := plusL_sat a.po b.po ha.po hb.po
  have m1 := refMerge_sat [a.h, b.h] (by intro l hl; simp at hl; rcases hl with rfl | rfl; exact la; exact lb) (by intro l hl; simp at hl; rcases hl with rfl | rfl; exact ha.hx; exact hb.hx) (by simp)
  have w1 := wide_num (hiZ a.s) (loZ a.s) ha.s (by unfold loZ word; omega) (by unfold loZ word; omega)
  have w2 := wide_num (hiZ b.s) (loZ b.s) hb.s (by unfold loZ word; omega) (by unfold loZ word; omega)
  rw [wide_split] at w1 w2
  have a1 := add_few (k := 8) (by omega) (few_in128 ha.s) (few_in128 hb.s)
  have w3 := words_num (a.s + b.s) (add_few_out (few_in128 ha.s) (few_in128 hb.s))
  have w3 : ∃ (hi lo : Int), Sat Try.prog 32 [.d (numD (a.s + b.s))] [] (.tup [iA hi, uN lo, bA (decide (in128 (a.s + b.s)))]) [] := by
    by_cases h : in64 (hiZ (a.s + b.s))
    · rw [if_pos h] at w3
      exact ⟨_, _, by rw [decide_eq_true (p := in128 (a.s + b.s)) h]; exact w3⟩
    · rw [if_neg h] at w3
      exact ⟨0, 0, by rw [decide_eq_false (p := in128 (a.s + b.s)) h]; exact w3⟩
  obtain ⟨hi, lo, w3⟩ := w3
  have tz : ∀ z, (toldZ z).2 = 0 ↔ in64 z := fun z => by
    by_cases h : in64 z
    · rw [told_in h]; simp [h]
    · rw [told_out h]; simp [h]
  have hno : ¬ ((toldZ (a.n + b.n)).2 = 0 ∧ (toldZ (a.ce + b.ce)).2 = 0 ∧ (toldZ (a.po + b.po)).2 = 0 ∧ mergeE [a.h, b.h] = 0 ∧ decide (in128 (a.s + b.s)) = true) := by
    rw [tz, tz, tz, decide_eq_true_eq]
    exact hf
  have hM := mergeR_len [a.h, b.h]
  generalize mergeR [a.h, b.h] = M at *
  generalize mergeE [a.h, b.h] = E at *
  generalize a.s + b.s = S at *
  generalize decide (in128 S) = B at *
  generalize toldZ (a.n + b.n) = T1 at *
  generalize toldZ (a.ce + b.ce) = T2 at *
  generalize toldZ (a.po + b.po) = T3 at *
  have hno := hide hno
  clear tz hf
  refine sat_of_vc (T := tiOf Try.prog) (E := E0) Try.func45 rfl rfl hE0 hm0 rfl ?_
  conv => whnf
  iterate 3
    repeat (any_goals (first
      | exact True.intro
      | (refine ⟨_, hist_cell s68 la, whole_len s68 la, ?_⟩; conv => whnf)
      | (refine ⟨_, hist_cell s68 lb, whole_len s68 lb, ?_⟩; conv => whnf)
      | (refine And.intro (whole_len rfl la) ?_; conv => whnf)
      | (refine And.intro (whole_len rfl lb) ?_; conv => whnf)
      | (refine And.intro (whole_len s68 hM) ?_; conv => whnf)
      | (refine And.intro (fit68 hM) ?_; conv => whnf)
      | (refine ⟨_, set68 hM, ?_⟩; conv => whnf)
      | (refine ⟨_, drop_id, ?_⟩; conv => whnf)
      | (refine ⟨_, _, at_n, ?_⟩; conv => whnf)
      | (refine ⟨_, _, at_hi, ?_⟩; conv => whnf)
      | (refine ⟨_, _, at_lo, ?_⟩; conv => whnf)
      | (refine ⟨_, _, at_mn, ?_⟩; conv => whnf)
      | (refine ⟨_, _, at_mx, ?_⟩; conv => whnf)
      | (refine ⟨_, _, at_ce, ?_⟩; conv => whnf)
      | (refine ⟨_, _, at_po, ?_⟩; conv => whnf)
      | (refine ⟨_, whole_z sC, clenz sC, ?_⟩; conv => whnf)
      | (refine ⟨_, setzC, ?_⟩; conv => whnf)
      | (refine And.intro (clenz sC) ?_; conv => whnf)
      | (refine And.intro fitzC ?_; conv => whnf)
      | (refine ⟨_, whole_cell sC la, clen sC la, ?_⟩; conv => whnf)
      | (refine And.intro (clen sC la) ?_; conv => whnf)
      | (refine And.intro (fitC la) ?_; conv => whnf)
      | (refine ⟨_, setC la, ?_⟩; conv => whnf)
      | (refine ⟨_, whole_cell sC lb, clen sC lb, ?_⟩; conv => whnf)
      | (refine And.intro (clen sC lb) ?_; conv => whnf)
      | (refine And.intro (fitC lb) ?_; conv => whnf)
      | (refine ⟨_, setC lb, ?_⟩; conv => whnf)
      | (refine ⟨_, whole_z sF, clenz sF, ?_⟩; conv => whnf)
      | (refine ⟨_, setzF, ?_⟩; conv => whnf)
      | (refine And.intro (clenz sF) ?_; conv => whnf)
      | (refine And.intro fitzF ?_; conv => whnf)
      | (refine ⟨_, whole_cell sF la, clen sF la, ?_⟩; conv => whnf)
      | (refine And.intro (clen sF la) ?_; conv => whnf)
      | (refine And.intro (fitF la) ?_; conv => whnf)
      | (refine ⟨_, setF la, ?_⟩; conv => whnf)
      | (refine ⟨_, whole_cell sF lb, clen sF lb, ?_⟩; conv => whnf)
      | (refine And.intro (clen sF lb) ?_; conv => whnf)
      | (refine And.intro (fitF lb) ?_; conv => whnf)
      | (refine ⟨_, setF lb, ?_⟩; conv => whnf)
      | (refine And.intro (fit1 la (by decide)) ?_; conv => whnf)
      | (refine And.intro (fit1 lb (by decide)) ?_; conv => whnf)
      | (refine And.intro (fit1 rfl (by decide)) ?_; conv => whnf)
      | (refine ⟨_, sum_cell s25, rfl, ?_⟩; conv => whnf)
      | (refine ⟨_, set_n _, ?_⟩; conv => whnf)
      | (refine ⟨_, set_mn _, ?_⟩; conv => whnf)
      | (refine ⟨_, set_mx _, ?_⟩; conv => whnf)
      | (refine ⟨_, set_ce _, ?_⟩; conv => whnf)
      | (refine ⟨_, set_po _, ?_⟩; conv => whnf)
      | (refine ⟨_, set_s _, ?_⟩; conv => whnf)
      | (refine ⟨_, set_hi _, ?_⟩; conv => whnf)
      | (refine ⟨_, set_lo _, ?_⟩; conv => whnf)
      | (refine And.intro (fun _ => ?_) tf; conv => whnf)
      | (refine And.intro ft (fun _ => ?_); conv => whnf)
      | (refine And.intro (by kernel_rfl) ?_; conv => whnf)
      | (refine And.intro (by decide) ?_; conv => whnf)
      | (refine And.intro (fun _ => ?_) (fun h => absurd h (by decide)); conv => whnf)
      | (refine And.intro (fun h => absurd h (by decide)) (fun _ => ?_); conv => whnf)
      | (refine And.intro (fun _ => ?_) (fun _ => ?_) <;> conv => whnf)
      | (refine ⟨_, _, p1.pu rfl rfl, ?_⟩; conv => whnf)
      | (refine ⟨_, _, p2.pu rfl rfl, ?_⟩; conv => whnf)
      | (refine ⟨_, _, p3.pu rfl rfl, ?_⟩; conv => whnf)
      | (refine ⟨_, _, lendO m1 rfl (flat_hE _ _), ?_⟩; conv => whnf)
      | (refine ⟨_, _, w1.pu rfl rfl, ?_⟩; conv => whnf)
      | (refine ⟨_, _, w2.pu rfl rfl, ?_⟩; conv => whnf)
      | (refine ⟨_, _, a1.pu rfl rfl, ?_⟩; conv => whnf)
      | (refine ⟨_, _, w3.pu rfl rfl, ?_⟩; conv => whnf)))
    all_goals try (refine Or.inl ?_; conv => whnf)
  all_goals try exact (two_no hno.out ‹(T1.2 != 0) = false› ‹(T2.2 != 0) = false› ‹(T3.2 != 0) = false› ‹((E : Int) != 0) = false› ‹(!B) = false›).elim
  all_goals refine ⟨[], ?_⟩
  repeat (any_goals (first | exact True.intro | exact rfl | with_reducible_and_instances rfl | exact (by kernel_rfl) | refine And.intro ?_ ?_))
  all_goals conv => whnf
end Go.Proofs.Ytbjmdnemeidpjaa
/- Merge of cells. -/
namespace Go.Proofs.Ytbjmdnemeidpjaa
set_option linter.unusedSimpArgs false
set_option linter.unusedVariables false
open Go.RowKit
set_option maxRecDepth 100000
theorem noB {b : Bool} (h : b = false) (q : (!b) = false) : False := by rw [h] at q; exact Bool.noConfusion q
theorem noLt {l : List Cel} (q : decide ((l.length : Int) < ((l.map cR).length : Int)) = true) : False := by
  have := of_decide_eq_true q
  rw [List.length_map] at this
  omega
theorem noGe {l : List Cel} {k : Nat} (h : k < l.length) (q : decide ((k : Int) < ((l.map cR).length : Int)) = false) : False := by
  have := of_decide_eq_false q
  rw [List.length_map] at this
  omega
theorem fitsZ : List.map D.v (tiOf Try.prog 96).zero = fitB false false false false := by kernel_rfl
theorem fitz1C {x : D} : 0 + 0 + [x].length ≤ (List.map D.v (tiOf Try.prog 29).zero).length := by rw [zeC]; exact fit1 rfl (by decide)
theorem zset_nC (x : Int) : sets (List.map D.v (tiOf Try.prog 29).zero) (0 + 0) [iD x] = cR ⟨x, 0, 0, 0, 0, 0, z65⟩ := by rw [zeC]; rfl
theorem fit2 {c : Cel} {k : Nat} {x y : D} (h : c.h.length = 65) (hk : k ≤ 70) : k + [x, y].length ≤ (cR c).length := by
  rw [cR_len h]; simp; omega
theorem l96 : (tiOf Try.prog 96).len = 4 := by kernel_rfl
set_option maxHeartbeats 8000000 in
theorem merge_sat_c (l : List Cel) (hl : ∀ c ∈ l, CelOK c) (hn : l.length ≤ 1000) : Sat Try.prog 19 [.d (.sl 72 (l.map cR))] [] (.tup [.d (cD (mergeC l).1), iA (mergeC l).2]) [] := by
  have hm : (l.map cR).length = l.length := List.length_map _
  refine sat_of_vc (T := tiOf Try.prog) (E := E0) Try.func19 rfl rfl hE0 hm0 rfl ?_
  conv => whnf
  iterate 2
    repeat (any_goals (first
      | exact True.intro
      | (refine ⟨_, drop_id, ?_⟩; conv => whnf)
      | (refine ⟨_, _, at_n, ?_⟩; conv => whnf)
      | (refine ⟨_, _, at_hi, ?_⟩; conv => whnf)
      | (refine ⟨_, _, at_lo, ?_⟩; conv => whnf)
      | (refine ⟨_, _, at_mn, ?_⟩; conv => whnf)
      | (refine ⟨_, _, at_mx, ?_⟩; conv => whnf)
      | (refine ⟨_, _, at_ce, ?_⟩; conv => whnf)
      | (refine ⟨_, _, at_po, ?_⟩; conv => whnf)
      | (refine ⟨_, whole_z sC, clenz sC, ?_⟩; conv => whnf)
      | (refine ⟨_, setzC, ?_⟩; conv => whnf)
      | (refine And.intro (clenz sC) ?_; conv => whnf)
      | (refine And.intro fitzC ?_; conv => whnf)
      | (refine ⟨_, whole_z sF, clenz sF, ?_⟩; conv => whnf)
      | (refine ⟨_, setzF, ?_⟩; conv => whnf)
      | (refine And.intro (clenz sF) ?_; conv => whnf)
      | (refine And.intro fitzF ?_; conv => whnf)
      | (refine And.intro (fit1 rfl (by decide)) ?_; conv => whnf)
      | (refine ⟨_, sum_cell s25, rfl, ?_⟩; conv => whnf)
      | (refine ⟨_, set_n _, ?_⟩; conv => whnf)
      | (refine ⟨_, set_mn _, ?_⟩; conv => whnf)
      | (refine ⟨_, set_mx _, ?_⟩; conv => whnf)
      | (refine ⟨_, set_ce _, ?_⟩; conv => whnf)
      | (refine ⟨_, set_po _, ?_⟩; conv => whnf)
      | (refine ⟨_, set_s _, ?_⟩; conv => whnf)
      | (refine ⟨_, set_hi _, ?_⟩; conv => whnf)
      | (refine ⟨_, set_lo _, ?_⟩; conv => whnf)
      | (refine And.intro (fun _ => ?_) tf; conv => whnf)
      | (refine And.intro ft (fun _ => ?_); conv => whnf)
      | (refine And.intro (by kernel_rfl) ?_; conv => whnf)
      | (refine And.intro (by decide) ?_; conv => whnf)
      | (refine And.intro (fun _ => ?_) (fun h => absurd h (by decide)); conv => whnf)
      | (refine And.intro (fun h => absurd h (by decide)) (fun _ => ?_); conv => whnf)
      | (refine And.intro (fun _ => ?_) (fun _ => ?_) <;> conv => whnf)))
    all_goals try (exfalso; simp only [decide_eq_true_eq, decide_eq_false_iff_not, Bool.not_eq_true', Bool.not_eq_false', Bool.not_eq_true, Bool.not_eq_false, beq_iff_eq, bne_iff_ne, beq_eq_false_iff_ne, bne_eq_false_iff_eq, ne_eq, Decidable.not_not] at *; first | omega | contradiction | (simp_all; done) | (simp_all; omega))
    all_goals try (refine Or.inl ?_; conv => whnf)
  refine ⟨Nat, fun k => k ≤ l.length ∧ (l.take k).all rightC = true, fun k => ([(16, iA k), (15, iA (l.map cR).length), (14, .d (.sl 72 (l.map cR))), (2, .ptr 0 0), (0, .d (.sl 72 (l.map cR)))], [.row (cR zC)]), fun k => l.length - k, ⟨0, ⟨Nat.zero_le _, rfl⟩, ?_⟩, ?_⟩
  · all_goals refine ⟨[], ?_⟩
    repeat (any_goals (first | exact True.intro | exact rfl | with_reducible_and_instances rfl | exact (by kernel_rfl) | refine And.intro ?_ ?_))
    all_goals conv => whnf
  rintro k ⟨hk, hr⟩
  conv => whnf
  by_cases hlt : k < l.length
  · have hx : l[k]? = some l[k] := List.getElem?_eq_getElem hlt
    have hc := hl _ (List.getElem_mem hlt)
    have ha := all_take_right hx
    generalize l[k] = c at hx hc ha
    have hcl := hc.hl
    have r1 := right_sat_c c hc
    by_cases q : rightC c = true
    · rw [q] at r1 ha
      iterate 4
        repeat (any_goals (first
          | exact True.intro
          | (refine ⟨k, _, rfl, map_get hx, ?_⟩; conv => whnf)
          | (refine ⟨_, drop_id, ?_⟩; conv => whnf)
          | (refine ⟨_, _, at_n, ?_⟩; conv => whnf)
          | (refine ⟨_, _, at_hi, ?_⟩; conv => whnf)
          | (refine ⟨_, _, at_lo, ?_⟩; conv => whnf)
          | (refine ⟨_, _, at_mn, ?_⟩; conv => whnf)
          | (refine ⟨_, _, at_mx, ?_⟩; conv => whnf)
          | (refine ⟨_, _, at_ce, ?_⟩; conv => whnf)
          | (refine ⟨_, _, at_po, ?_⟩; conv => whnf)
          | (refine ⟨_, whole_z sC, clenz sC, ?_⟩; conv => whnf)
          | (refine ⟨_, setzC, ?_⟩; conv => whnf)
          | (refine And.intro (clenz sC) ?_; conv => whnf)
          | (refine And.intro fitzC ?_; conv => whnf)
          | (refine ⟨_, whole_cell sC hcl, clen sC hcl, ?_⟩; conv => whnf)
          | (refine And.intro (clen sC hcl) ?_; conv => whnf)
          | (refine And.intro (fitC hcl) ?_; conv => whnf)
          | (refine ⟨_, setC hcl, ?_⟩; conv => whnf)
          | (refine ⟨_, whole_z sF, clenz sF, ?_⟩; conv => whnf)
          | (refine ⟨_, setzF, ?_⟩; conv => whnf)
          | (refine And.intro (clenz sF) ?_; conv => whnf)
          | (refine And.intro fitzF ?_; conv => whnf)
          | (refine ⟨_, whole_cell sF hcl, clen sF hcl, ?_⟩; conv => whnf)
          | (refine And.intro (clen sF hcl) ?_; conv => whnf)
          | (refine And.intro (fitF hcl) ?_; conv => whnf)
          | (refine ⟨_, setF hcl, ?_⟩; conv => whnf)
          | (refine And.intro (fit1 hcl (by decide)) ?_; conv => whnf)
          | (refine And.intro (fit1 rfl (by decide)) ?_; conv => whnf)
          | (refine ⟨_, sum_cell s25, rfl, ?_⟩; conv => whnf)
          | (refine ⟨_, set_n _, ?_⟩; conv => whnf)
          | (refine ⟨_, set_mn _, ?_⟩; conv => whnf)
          | (refine ⟨_, set_mx _, ?_⟩; conv => whnf)
          | (refine ⟨_, set_ce _, ?_⟩; conv => whnf)
          | (refine ⟨_, set_po _, ?_⟩; conv => whnf)
          | (refine ⟨_, set_s _, ?_⟩; conv => whnf)
          | (refine ⟨_, set_hi _, ?_⟩; conv => whnf)
          | (refine ⟨_, set_lo _, ?_⟩; conv => whnf)
          | (refine And.intro (fun _ => ?_) tf; conv => whnf)
          | (refine And.intro ft (fun _ => ?_); conv => whnf)
          | (refine And.intro (by kernel_rfl) ?_; conv => whnf)
          | (refine And.intro (by decide) ?_; conv => whnf)
          | (refine And.intro (fun _ => ?_) (fun h => absurd h (by decide)); conv => whnf)
          | (refine And.intro (fun h => absurd h (by decide)) (fun _ => ?_); conv => whnf)
          | (refine And.intro (fun _ => ?_) (fun _ => ?_) <;> conv => whnf)
          | (refine ⟨_, _, r1.pu rfl rfl, ?_⟩; conv => whnf)))
        all_goals try (exfalso; simp only [decide_eq_true_eq, decide_eq_false_iff_not, Bool.not_eq_true', Bool.not_eq_false', Bool.not_eq_true, Bool.not_eq_false, beq_iff_eq, bne_iff_ne, beq_eq_false_iff_ne, bne_eq_false_iff_eq, ne_eq, Decidable.not_not] at *; first | omega | contradiction | (simp_all; done) | (simp_all; omega))
        all_goals try (refine Or.inl ?_; conv => whnf)
      refine ⟨k + 1, ⟨hlt, by rw [ha, hr]; rfl⟩, show l.length - (k + 1) < l.length - k by omega, ?_⟩
      all_goals refine ⟨[], ?_⟩
      repeat (any_goals (first | exact True.intro | exact rfl | with_reducible_and_instances rfl | exact (by kernel_rfl) | refine And.intro ?_ ?_))
      all_goals conv => whnf
      exact wk1 (by omega)
    · have q : rightC c = false := by simpa using q
      rw [q] at r1
      have hall : l.all rightC = false := by
        rw [← List.take_append_drop (k + 1) l, List.all_append, ha, q, Bool.and_false, Bool.false_and]
      have e : mergeC l = (zC, 10) := by unfold mergeC; rw [if_pos hall]
      iterate 4
        repeat (any_goals (first
          | exact True.intro
          | (refine ⟨k, _, rfl, map_get hx, ?_⟩; conv => whnf)
          | (refine ⟨_, drop_id, ?_⟩; conv => whnf)
          | (refine ⟨_, _, at_n, ?_⟩; conv => whnf)
          | (refine ⟨_, _, at_hi, ?_⟩; conv => whnf)
          | (refine ⟨_, _, at_lo, ?_⟩; conv => whnf)
          | (refine ⟨_, _, at_mn, ?_⟩; conv => whnf)
          | (refine ⟨_, _, at_mx, ?_⟩; conv => whnf)
          | (refine ⟨_, _, at_ce, ?_⟩; conv => whnf)
          | (refine ⟨_, _, at_po, ?_⟩; conv => whnf)
          | (refine ⟨_, whole_z sC, clenz sC, ?_⟩; conv => whnf)
          | (refine ⟨_, setzC, ?_⟩; conv => whnf)
          | (refine And.intro (clenz sC) ?_; conv => whnf)
          | (refine And.intro fitzC ?_; conv => whnf)
          | (refine ⟨_, whole_cell sC hcl, clen sC hcl, ?_⟩; conv => whnf)
          | (refine And.intro (clen sC hcl) ?_; conv => whnf)
          | (refine And.intro (fitC hcl) ?_; conv => whnf)
          | (refine ⟨_, setC hcl, ?_⟩; conv => whnf)
          | (refine ⟨_, whole_z sF, clenz sF, ?_⟩; conv => whnf)
          | (refine ⟨_, setzF, ?_⟩; conv => whnf)
          | (refine And.intro (clenz sF) ?_; conv => whnf)
          | (refine And.intro fitzF ?_; conv => whnf)
          | (refine ⟨_, whole_cell sF hcl, clen sF hcl, ?_⟩; conv => whnf)
          | (refine And.intro (clen sF hcl) ?_; conv => whnf)
          | (refine And.intro (fitF hcl) ?_; conv => whnf)
          | (refine ⟨_, setF hcl, ?_⟩; conv => whnf)
          | (refine And.intro (fit1 hcl (by decide)) ?_; conv => whnf)
          | (refine And.intro (fit1 rfl (by decide)) ?_; conv => whnf)
          | (refine ⟨_, sum_cell s25, rfl, ?_⟩; conv => whnf)
          | (refine ⟨_, set_n _, ?_⟩; conv => whnf)
          | (refine ⟨_, set_mn _, ?_⟩; conv => whnf)
          | (refine ⟨_, set_mx _, ?_⟩; conv => whnf)
          | (refine ⟨_, set_ce _, ?_⟩; conv => whnf)
          | (refine ⟨_, set_po _, ?_⟩; conv => whnf)
          | (refine ⟨_, set_s _, ?_⟩; conv => whnf)
          | (refine ⟨_, set_hi _, ?_⟩; conv => whnf)
          | (refine ⟨_, set_lo _, ?_⟩; conv => whnf)
          | (refine And.intro (fun _ => ?_) tf; conv => whnf)
          | (refine And.intro ft (fun _ => ?_); conv => whnf)
          | (refine And.intro (by kernel_rfl) ?_; conv => whnf)
          | (refine And.intro (by decide) ?_; conv => whnf)
          | (refine And.intro (fun _ => ?_) (fun h => absurd h (by decide)); conv => whnf)
          | (refine And.intro (fun h => absurd h (by decide)) (fun _ => ?_); conv => whnf)
          | (refine And.intro (fun _ => ?_) (fun _ => ?_) <;> conv => whnf)
          | (refine ⟨_, _, r1.pu rfl rfl, ?_⟩; conv => whnf)))
        all_goals try (exfalso; simp only [decide_eq_true_eq, decide_eq_false_iff_not, Bool.not_eq_true', Bool.not_eq_false', Bool.not_eq_true, Bool.not_eq_false, beq_iff_eq, bne_iff_ne, beq_eq_false_iff_ne, bne_eq_false_iff_eq, ne_eq, Decidable.not_not] at *; first | omega | contradiction | (simp_all; done) | (simp_all; omega))
        all_goals try (refine Or.inl ?_; conv => whnf)
      rw [e]
      all_goals refine ⟨[], ?_⟩
      repeat (any_goals (first | exact True.intro | exact rfl | with_reducible_and_instances rfl | exact (by kernel_rfl) | refine And.intro ?_ ?_))
      all_goals conv => whnf
  · have hke : k = l.length := by omega
    subst hke
    rw [List.take_length] at hr
    have hR : ∀ c ∈ l, RightC c := fun c hc => right_iff.1 (List.all_eq_true.1 hr c hc)
    have t1 := total_cells 47 (·.n) l hn (fun c hc => ⟨(hR c hc).n, (hl c hc).n⟩) (fun c _ => tot_n c) (by kernel_rfl)
    have t2 := total_cells 48 (·.ce) l hn (fun c hc => ⟨(hR c hc).ce, (hl c hc).ce⟩) (fun c _ => tot_ce c) (by kernel_rfl)
    have t3 := total_cells 49 (·.po) l hn (fun c hc => ⟨(hR c hc).po, (hl c hc).po⟩) (fun c _ => tot_po c) (by kernel_rfl)
    have t4 := sums_sat l hl hn
    have hf := fits_iff (l := l)
    by_cases hfit : fitsC l = true
    case neg =>
      have hfit : fitsC l = false := by simpa using hfit
      have e : mergeC l = (zC, 12) := by unfold mergeC; rw [if_neg (by rw [hr]; simp), if_pos hfit]
      rw [ite_tup] at t1 t2 t3
      rw [ite_tupW] at t4
      rw [hfit] at hf
      change false = (decide (sumBy (·.n) l ≤ 9223372036854775807) && decide (sumBy (·.ce) l ≤ 9223372036854775807) && decide (sumBy (·.po) l ≤ 9223372036854775807) && decide (in128 (sumS l))) at hf
      generalize decide (sumBy (·.n) l ≤ 9223372036854775807) = b1 at *
      generalize decide (sumBy (·.ce) l ≤ 9223372036854775807) = b2 at *
      generalize decide (sumBy (·.po) l ≤ 9223372036854775807) = b3 at *
      generalize decide (in128 (sumS l)) = b4 at *
      generalize (if sumBy (·.n) l ≤ 9223372036854775807 then sumBy (·.n) l else 0) = n1 at *
      generalize (if sumBy (·.ce) l ≤ 9223372036854775807 then sumBy (·.ce) l else 0) = n2 at *
      generalize (if sumBy (·.po) l ≤ 9223372036854775807 then sumBy (·.po) l else 0) = n3 at *
      generalize (if in128 (sumS l) then sumS l else 0) = n4 at *
      have hb := hide hf.symm
      clear hf
      iterate 3
        repeat (any_goals (first
          | exact True.intro
          | (refine ⟨0, rfl, Nat.lt_of_lt_of_eq (by decide) l96.symm, ?_⟩; conv => whnf)
          | (refine ⟨1, rfl, Nat.lt_of_lt_of_eq (by decide) l96.symm, ?_⟩; conv => whnf)
          | (refine ⟨2, rfl, Nat.lt_of_lt_of_eq (by decide) l96.symm, ?_⟩; conv => whnf)
          | (refine ⟨3, rfl, Nat.lt_of_lt_of_eq (by decide) l96.symm, ?_⟩; conv => whnf)
          | (refine And.intro fitz1C ?_; conv => whnf)
          | (refine ⟨_, zset_nC _, ?_⟩; conv => whnf)
          | (refine And.intro (fit2 rfl (by decide)) ?_; conv => whnf)
          | (refine ⟨_, drop_id, ?_⟩; conv => whnf)
          | (refine ⟨_, _, at_n, ?_⟩; conv => whnf)
          | (refine ⟨_, _, at_hi, ?_⟩; conv => whnf)
          | (refine ⟨_, _, at_lo, ?_⟩; conv => whnf)
          | (refine ⟨_, _, at_mn, ?_⟩; conv => whnf)
          | (refine ⟨_, _, at_mx, ?_⟩; conv => whnf)
          | (refine ⟨_, _, at_ce, ?_⟩; conv => whnf)
          | (refine ⟨_, _, at_po, ?_⟩; conv => whnf)
          | (refine ⟨_, whole_z sC, clenz sC, ?_⟩; conv => whnf)
          | (refine ⟨_, setzC, ?_⟩; conv => whnf)
          | (refine And.intro (clenz sC) ?_; conv => whnf)
          | (refine And.intro fitzC ?_; conv => whnf)
          | (refine ⟨_, whole_z sF, clenz sF, ?_⟩; conv => whnf)
          | (refine ⟨_, setzF, ?_⟩; conv => whnf)
          | (refine And.intro (clenz sF) ?_; conv => whnf)
          | (refine And.intro fitzF ?_; conv => whnf)
          | (refine And.intro (fit1 rfl (by decide)) ?_; conv => whnf)
          | (refine ⟨_, sum_cell s25, rfl, ?_⟩; conv => whnf)
          | (refine ⟨_, set_n _, ?_⟩; conv => whnf)
          | (refine ⟨_, set_mn _, ?_⟩; conv => whnf)
          | (refine ⟨_, set_mx _, ?_⟩; conv => whnf)
          | (refine ⟨_, set_ce _, ?_⟩; conv => whnf)
          | (refine ⟨_, set_po _, ?_⟩; conv => whnf)
          | (refine ⟨_, set_s _, ?_⟩; conv => whnf)
          | (refine ⟨_, set_hi _, ?_⟩; conv => whnf)
          | (refine ⟨_, set_lo _, ?_⟩; conv => whnf)
          | (refine And.intro (fun _ => ?_) tf; conv => whnf)
          | (refine And.intro ft (fun _ => ?_); conv => whnf)
          | (refine And.intro (by kernel_rfl) ?_; conv => whnf)
          | (refine And.intro (by decide) ?_; conv => whnf)
          | (refine And.intro (fun _ => ?_) (fun h => absurd h (by decide)); conv => whnf)
          | (refine And.intro (fun h => absurd h (by decide)) (fun _ => ?_); conv => whnf)
          | (refine And.intro (fun _ => ?_) (fun _ => ?_) <;> conv => whnf)
          | (refine ⟨_, _, t1.pu rfl rfl, ?_⟩; conv => whnf)
          | (refine ⟨_, _, t2.pu rfl rfl, ?_⟩; conv => whnf)
          | (refine ⟨_, _, t3.pu rfl rfl, ?_⟩; conv => whnf)
          | (refine ⟨_, _, t4.pu rfl rfl, ?_⟩; conv => whnf)
          | (refine ⟨_, _, neFit b1 b2 b3 b4, ?_⟩; conv => whnf)))
        all_goals try (refine Or.inl ?_; conv => whnf)
      all_goals try exact (noLt ‹_›).elim
      all_goals try exact (noB hb.out ‹_›).elim
      rw [e]
      all_goals refine ⟨[], ?_⟩
      repeat (any_goals (first | exact True.intro | exact rfl | with_reducible_and_instances rfl | exact (by kernel_rfl) | refine And.intro ?_ ?_))
      all_goals conv => whnf
    rw [hfit] at hf
    have hf := hf.symm
    simp only [Bool.and_eq_true, decide_eq_true_eq] at hf
    obtain ⟨⟨⟨f1, f2⟩, f3⟩, f4⟩ := hf
    rw [if_pos (show sumBy (·.n) l ≤ 9223372036854775807 from f1)] at t1
    rw [if_pos (show sumBy (·.ce) l ≤ 9223372036854775807 from f2)] at t2
    rw [if_pos (show sumBy (·.po) l ≤ 9223372036854775807 from f3)] at t3
    rw [if_pos f4] at t4
    change Sat _ _ _ _ (.tup [iA (sumN l), bA true]) _ at t1
    change Sat _ _ _ _ (.tup [iA (sumCe l), bA true]) _ at t2
    change Sat _ _ _ _ (.tup [iA (sumPo l), bA true]) _ at t3
    obtain ⟨m1, m2⟩ := merge_hist_fine hR (fun c hc => (hl c hc).hl) (by unfold big; exact f1)
    have mh := merge_sat (l.map (·.h)) (fun h hh => by obtain ⟨c, hc, rfl⟩ := List.mem_map.1 hh; exact (hl c hc).hl) (fun h hh => by obtain ⟨c, hc, rfl⟩ := List.mem_map.1 hh; exact (hl c hc).hx) (by rw [List.length_map]; omega)
    rw [m1, m2] at mh
    have e : mergeC l = (joinC l, 0) := by unfold mergeC; rw [if_neg (by rw [hr]; simp), if_neg (by rw [hfit]; simp)]
    rw [e]
    have ej : joinC l = ⟨sumN l, sumS l, mmin ((full l).map (·.mn)), mmax ((full l).map (·.mx)), sumCe l, sumPo l, mergeL (l.map (·.h))⟩ := rfl
    rw [ej]
    have hml : (mergeL (l.map (·.h))).length = 65 := by simp [mergeL]
    generalize mergeL (l.map (·.h)) = M at *
    generalize sumN l = N at *
    generalize sumS l = S at *
    generalize sumCe l = Ce at *
    generalize sumPo l = Po at *
    iterate 3
      repeat (any_goals (first
        | exact True.intro
        | (refine ⟨0, rfl, Nat.lt_of_lt_of_eq (by decide) l96.symm, ?_⟩; conv => whnf)
        | (refine ⟨1, rfl, Nat.lt_of_lt_of_eq (by decide) l96.symm, ?_⟩; conv => whnf)
        | (refine ⟨2, rfl, Nat.lt_of_lt_of_eq (by decide) l96.symm, ?_⟩; conv => whnf)
        | (refine ⟨3, rfl, Nat.lt_of_lt_of_eq (by decide) l96.symm, ?_⟩; conv => whnf)
        | (refine And.intro fitz1C ?_; conv => whnf)
        | (refine ⟨_, zset_nC _, ?_⟩; conv => whnf)
        | (refine And.intro (fit2 rfl (by decide)) ?_; conv => whnf)
        | (refine ⟨_, drop_id, ?_⟩; conv => whnf)
        | (refine ⟨_, _, at_n, ?_⟩; conv => whnf)
        | (refine ⟨_, _, at_hi, ?_⟩; conv => whnf)
        | (refine ⟨_, _, at_lo, ?_⟩; conv => whnf)
        | (refine ⟨_, _, at_mn, ?_⟩; conv => whnf)
        | (refine ⟨_, _, at_mx, ?_⟩; conv => whnf)
        | (refine ⟨_, _, at_ce, ?_⟩; conv => whnf)
        | (refine ⟨_, _, at_po, ?_⟩; conv => whnf)
        | (refine ⟨_, whole_z sC, clenz sC, ?_⟩; conv => whnf)
        | (refine ⟨_, setzC, ?_⟩; conv => whnf)
        | (refine And.intro (clenz sC) ?_; conv => whnf)
        | (refine And.intro fitzC ?_; conv => whnf)
        | (refine ⟨_, whole_z sF, clenz sF, ?_⟩; conv => whnf)
        | (refine ⟨_, setzF, ?_⟩; conv => whnf)
        | (refine And.intro (clenz sF) ?_; conv => whnf)
        | (refine And.intro fitzF ?_; conv => whnf)
        | (refine And.intro (fit1 rfl (by decide)) ?_; conv => whnf)
        | (refine ⟨_, sum_cell s25, rfl, ?_⟩; conv => whnf)
        | (refine ⟨_, set_n _, ?_⟩; conv => whnf)
        | (refine ⟨_, set_mn _, ?_⟩; conv => whnf)
        | (refine ⟨_, set_mx _, ?_⟩; conv => whnf)
        | (refine ⟨_, set_ce _, ?_⟩; conv => whnf)
        | (refine ⟨_, set_po _, ?_⟩; conv => whnf)
        | (refine ⟨_, set_s _, ?_⟩; conv => whnf)
        | (refine ⟨_, set_hi _, ?_⟩; conv => whnf)
        | (refine ⟨_, set_lo _, ?_⟩; conv => whnf)
        | (refine And.intro (fun _ => ?_) tf; conv => whnf)
        | (refine And.intro ft (fun _ => ?_); conv => whnf)
        | (refine And.intro (by kernel_rfl) ?_; conv => whnf)
        | (refine And.intro (by decide) ?_; conv => whnf)
        | (refine And.intro (fun _ => ?_) (fun h => absurd h (by decide)); conv => whnf)
        | (refine And.intro (fun h => absurd h (by decide)) (fun _ => ?_); conv => whnf)
        | (refine And.intro (fun _ => ?_) (fun _ => ?_) <;> conv => whnf)
        | (refine ⟨_, _, t1.pu rfl rfl, ?_⟩; conv => whnf)
        | (refine ⟨_, _, t2.pu rfl rfl, ?_⟩; conv => whnf)
        | (refine ⟨_, _, t3.pu rfl rfl, ?_⟩; conv => whnf)
        | (refine ⟨_, _, t4.pu rfl rfl, ?_⟩; conv => whnf)
        | (refine ⟨_, _, neFit true true true true, ?_⟩; conv => whnf)
        | (refine ⟨_, _, mk0 65 520 (by kernel_rfl) (by omega) (by unfold maxLen; omega), ?_⟩; conv => whnf)))
      all_goals try (refine Or.inl ?_; conv => whnf)
    all_goals try exact (noLt ‹_›).elim
    all_goals try exact (noB (b := (true && true && true && true)) rfl ‹_›).elim
    refine ⟨Nat × Bool × Int × Int, fun y => y.1 ≤ l.length ∧ y.2.1 = decide (full (l.take y.1) ≠ []) ∧ y.2.2.1 = mmin ((full (l.take y.1)).map (·.mn)) ∧ y.2.2.2 = mmax ((full (l.take y.1)).map (·.mx)), fun y => ([(62, iA y.1), (61, iA (l.map cR).length), (60, .d (.sl 72 (l.map cR))), (9, bA y.2.1), (8, .own 3), (6, .ptr 1 0), (2, .ptr 0 0), (0, .d (.sl 72 (l.map cR)))], [.row (cR zC), .row (cR ⟨N, S, y.2.2.1, y.2.2.2, Ce, Po, z65⟩), .dead, .sl 65 ((l.take y.1).map fun c => Go.Proofs.Ytbjmdnemeidpjaa.hR c.h)]), fun y => l.length - y.1, ⟨(0, false, 0, 0), ⟨Nat.zero_le _, rfl, rfl, rfl⟩, ?_⟩, ?_⟩
    · all_goals refine ⟨[], ?_⟩
      repeat (any_goals (first | exact True.intro | exact rfl | with_reducible_and_instances rfl | exact (by kernel_rfl) | refine And.intro ?_ ?_))
      all_goals conv => whnf
    rintro ⟨k, sm, a, b⟩ ⟨hk, hsm, ha, hb⟩
    have hk : k ≤ l.length := hk
    have hsm : sm = decide (full (l.take k) ≠ []) := hsm
    have ha : a = mmin ((full (l.take k)).map (·.mn)) := ha
    have hb : b = mmax ((full (l.take k)).map (·.mx)) := hb
    have hml2 : ((l.take k).map fun c => Go.Proofs.Ytbjmdnemeidpjaa.hR c.h).length = k := by simp; omega
    conv => whnf
    by_cases hlt : k < l.length
    · have hx : l[k]? = some l[k] := List.getElem?_eq_getElem hlt
      have hc := hl _ (List.getElem_mem hlt)
      have hfs := full_succ hx
      generalize l[k] = c at hx hc hfs
      have hcl := hc.hl
      have hmap : AObj.sl 65 (((l.take k).map fun c => Go.Proofs.Ytbjmdnemeidpjaa.hR c.h) ++ [Go.Proofs.Ytbjmdnemeidpjaa.hR c.h]) = .sl 65 ((l.take (k + 1)).map fun c => Go.Proofs.Ytbjmdnemeidpjaa.hR c.h) :=
        congrArg (AObj.sl 65) (map_take_succ (f := fun c : Cel => Go.Proofs.Ytbjmdnemeidpjaa.hR c.h) hx).symm
      iterate 8
        repeat (any_goals (first
          | exact True.intro
          | (refine ⟨k, _, rfl, map_get hx, ?_⟩; conv => whnf)
          | (refine ⟨_, hist_cell s69 hcl, whole_len s69 hcl, ?_⟩; conv => whnf)
          | (refine And.intro (whole_len rfl hcl) ?_; conv => whnf)
          | (refine ⟨_, drop_id, ?_⟩; conv => whnf)
          | (refine ⟨_, _, at_n, ?_⟩; conv => whnf)
          | (refine ⟨_, _, at_hi, ?_⟩; conv => whnf)
          | (refine ⟨_, _, at_lo, ?_⟩; conv => whnf)
          | (refine ⟨_, _, at_mn, ?_⟩; conv => whnf)
          | (refine ⟨_, _, at_mx, ?_⟩; conv => whnf)
          | (refine ⟨_, _, at_ce, ?_⟩; conv => whnf)
          | (refine ⟨_, _, at_po, ?_⟩; conv => whnf)
          | (refine ⟨_, whole_z sC, clenz sC, ?_⟩; conv => whnf)
          | (refine ⟨_, setzC, ?_⟩; conv => whnf)
          | (refine And.intro (clenz sC) ?_; conv => whnf)
          | (refine And.intro fitzC ?_; conv => whnf)
          | (refine ⟨_, whole_cell sC hcl, clen sC hcl, ?_⟩; conv => whnf)
          | (refine And.intro (clen sC hcl) ?_; conv => whnf)
          | (refine And.intro (fitC hcl) ?_; conv => whnf)
          | (refine ⟨_, setC hcl, ?_⟩; conv => whnf)
          | (refine ⟨_, whole_z sF, clenz sF, ?_⟩; conv => whnf)
          | (refine ⟨_, setzF, ?_⟩; conv => whnf)
          | (refine And.intro (clenz sF) ?_; conv => whnf)
          | (refine And.intro fitzF ?_; conv => whnf)
          | (refine ⟨_, whole_cell sF hcl, clen sF hcl, ?_⟩; conv => whnf)
          | (refine And.intro (clen sF hcl) ?_; conv => whnf)
          | (refine And.intro (fitF hcl) ?_; conv => whnf)
          | (refine ⟨_, setF hcl, ?_⟩; conv => whnf)
          | (refine And.intro (fit1 hcl (by decide)) ?_; conv => whnf)
          | (refine And.intro (fit1 rfl (by decide)) ?_; conv => whnf)
          | (refine ⟨_, sum_cell s25, rfl, ?_⟩; conv => whnf)
          | (refine ⟨_, set_n _, ?_⟩; conv => whnf)
          | (refine ⟨_, set_mn _, ?_⟩; conv => whnf)
          | (refine ⟨_, set_mx _, ?_⟩; conv => whnf)
          | (refine ⟨_, set_ce _, ?_⟩; conv => whnf)
          | (refine ⟨_, set_po _, ?_⟩; conv => whnf)
          | (refine ⟨_, set_s _, ?_⟩; conv => whnf)
          | (refine ⟨_, set_hi _, ?_⟩; conv => whnf)
          | (refine ⟨_, set_lo _, ?_⟩; conv => whnf)
          | (refine And.intro (fun _ => ?_) tf; conv => whnf)
          | (refine And.intro ft (fun _ => ?_); conv => whnf)
          | (refine And.intro (by kernel_rfl) ?_; conv => whnf)
          | (refine And.intro (by decide) ?_; conv => whnf)
          | (refine And.intro (fun _ => ?_) (fun h => absurd h (by decide)); conv => whnf)
          | (refine And.intro (fun h => absurd h (by decide)) (fun _ => ?_); conv => whnf)
          | (refine And.intro (fun _ => ?_) (fun _ => ?_) <;> conv => whnf)
          | (refine ⟨_, _, ap 65 520 (by kernel_rfl) rfl rfl (by simp [hml2]; omega), ?_⟩; conv => whnf)))
        all_goals try (refine Or.inl ?_; conv => whnf)
      all_goals try exact (noGe hlt ‹_›).elim
      · have q : c.n = 0 := eq_of_beq ‹(c.n == 0) = true›
        rw [if_pos q, List.append_nil] at hfs
        refine ⟨(k + 1, sm, a, b), ⟨hlt, by show sm = decide (full (l.take (k + 1)) ≠ []); rw [hfs]; exact hsm, by show a = _; rw [hfs]; exact ha, by show b = _; rw [hfs]; exact hb⟩, show l.length - (k + 1) < l.length - k by omega, ?_⟩
        all_goals refine ⟨[(3, 6)], ?_⟩
        repeat (any_goals (first | exact True.intro | exact rfl | with_reducible_and_instances rfl | exact (by kernel_rfl) | refine And.intro ?_ ?_))
        all_goals conv => whnf
        · exact wk1 (by omega)
        · exact hmap
      · have q : ¬ c.n = 0 := by have := ‹(c.n == 0) = false›; simpa using this
        have q2 : sm = false := by have := ‹(!sm) = true›; simpa using this
        rw [if_neg q] at hfs
        have hz : full (l.take k) = [] := by rw [q2] at hsm; simpa using hsm.symm
        rw [hz] at hfs
        refine ⟨(k + 1, true, c.mn, c.mx), ⟨hlt, by show true = decide (full (l.take (k + 1)) ≠ []); rw [hfs]; rfl, by show c.mn = _; rw [hfs]; rfl, by show c.mx = _; rw [hfs]; rfl⟩, show l.length - (k + 1) < l.length - k by omega, ?_⟩
        all_goals refine ⟨[(3, 6)], ?_⟩
        repeat (any_goals (first | exact True.intro | exact rfl | with_reducible_and_instances rfl | exact (by kernel_rfl) | refine And.intro ?_ ?_))
        all_goals conv => whnf
        · exact wk1 (by omega)
        · show AObj.row (cR ⟨N, S, if c.mn < c.mn then c.mn else c.mn, if c.mx > c.mx then c.mx else c.mx, Ce, Po, z65⟩) = .row (cR ⟨N, S, c.mn, c.mx, Ce, Po, z65⟩)
          rw [← min_if, ← max_if, Int.min_self, Int.max_self]
        · exact hmap
      · have q : ¬ c.n = 0 := by have := ‹(c.n == 0) = false›; simpa using this
        have q2 : sm = true := by have := ‹(!sm) = false›; simpa using this
        rw [if_neg q] at hfs
        have hz : full (l.take k) ≠ [] := by rw [q2] at hsm; exact of_decide_eq_true hsm.symm
        have hz2 : (full (l.take k)).map (·.mn) ≠ [] := fun h => hz (List.map_eq_nil_iff.1 h)
        have hz3 : (full (l.take k)).map (·.mx) ≠ [] := fun h => hz (List.map_eq_nil_iff.1 h)
        refine ⟨(k + 1, sm, min a c.mn, max b c.mx), ⟨hlt, by show sm = decide (full (l.take (k + 1)) ≠ []); rw [hfs, q2]; simp, by show min a c.mn = _; rw [hfs, List.map_append]; show _ = mmin (_ ++ [c.mn]); rw [mmin_snoc, if_neg hz2, ← ha], by show max b c.mx = _; rw [hfs, List.map_append]; show _ = mmax (_ ++ [c.mx]); rw [mmax_snoc, if_neg hz3, ← hb]⟩, show l.length - (k + 1) < l.length - k by omega, ?_⟩
        all_goals refine ⟨[(3, 6)], ?_⟩
        repeat (any_goals (first | exact True.intro | exact rfl | with_reducible_and_instances rfl | exact (by kernel_rfl) | refine And.intro ?_ ?_))
        all_goals conv => whnf
        · exact wk1 (by omega)
        · show AObj.row (cR ⟨N, S, if c.mn < a then c.mn else a, if c.mx > b then c.mx else b, Ce, Po, z65⟩) = .row (cR ⟨N, S, min a c.mn, max b c.mx, Ce, Po, z65⟩)
          rw [min_if, max_if]
        · exact hmap
    · have hke : k = l.length := by omega
      subst hke
      rw [List.take_length] at ha hb
      rw [← ha, ← hb]
      rw [show (l.map (·.h)).map Go.Proofs.Ytbjmdnemeidpjaa.hR = (l.take l.length).map (fun c => Go.Proofs.Ytbjmdnemeidpjaa.hR c.h) from by rw [List.take_length, List.map_map]; rfl] at mh
      have hz0 : (⟨N, S, a, b, Ce, Po, z65⟩ : Cel).h.length = 65 := rfl
      iterate 6
        repeat (any_goals (first
          | exact True.intro
          | (refine And.intro (whole_len s69 hml) ?_; conv => whnf)
          | (refine And.intro (fit69 hml) ?_; conv => whnf)
          | (refine ⟨_, set69 hml, ?_⟩; conv => whnf)
          | (refine ⟨_, whole_row s69 hml, whole_len s69 hml, ?_⟩; conv => whnf)
          | (refine And.intro (hist_fit hz0 hml) ?_; conv => whnf)
          | (refine ⟨_, set_hh hz0 hml, ?_⟩; conv => whnf)
          | (refine ⟨_, drop_id, ?_⟩; conv => whnf)
          | (refine ⟨_, _, at_n, ?_⟩; conv => whnf)
          | (refine ⟨_, _, at_hi, ?_⟩; conv => whnf)
          | (refine ⟨_, _, at_lo, ?_⟩; conv => whnf)
          | (refine ⟨_, _, at_mn, ?_⟩; conv => whnf)
          | (refine ⟨_, _, at_mx, ?_⟩; conv => whnf)
          | (refine ⟨_, _, at_ce, ?_⟩; conv => whnf)
          | (refine ⟨_, _, at_po, ?_⟩; conv => whnf)
          | (refine ⟨_, whole_z sC, clenz sC, ?_⟩; conv => whnf)
          | (refine ⟨_, setzC, ?_⟩; conv => whnf)
          | (refine And.intro (clenz sC) ?_; conv => whnf)
          | (refine And.intro fitzC ?_; conv => whnf)
          | (refine ⟨_, whole_cell sC hml, clen sC hml, ?_⟩; conv => whnf)
          | (refine And.intro (clen sC hml) ?_; conv => whnf)
          | (refine And.intro (fitC hml) ?_; conv => whnf)
          | (refine ⟨_, setC hml, ?_⟩; conv => whnf)
          | (refine ⟨_, whole_z sF, clenz sF, ?_⟩; conv => whnf)
          | (refine ⟨_, setzF, ?_⟩; conv => whnf)
          | (refine And.intro (clenz sF) ?_; conv => whnf)
          | (refine And.intro fitzF ?_; conv => whnf)
          | (refine ⟨_, whole_cell sF hml, clen sF hml, ?_⟩; conv => whnf)
          | (refine And.intro (clen sF hml) ?_; conv => whnf)
          | (refine And.intro (fitF hml) ?_; conv => whnf)
          | (refine ⟨_, setF hml, ?_⟩; conv => whnf)
          | (refine And.intro (fit1 hml (by decide)) ?_; conv => whnf)
          | (refine And.intro (fit1 rfl (by decide)) ?_; conv => whnf)
          | (refine ⟨_, sum_cell s25, rfl, ?_⟩; conv => whnf)
          | (refine ⟨_, set_n _, ?_⟩; conv => whnf)
          | (refine ⟨_, set_mn _, ?_⟩; conv => whnf)
          | (refine ⟨_, set_mx _, ?_⟩; conv => whnf)
          | (refine ⟨_, set_ce _, ?_⟩; conv => whnf)
          | (refine ⟨_, set_po _, ?_⟩; conv => whnf)
          | (refine ⟨_, set_s _, ?_⟩; conv => whnf)
          | (refine ⟨_, set_hi _, ?_⟩; conv => whnf)
          | (refine ⟨_, set_lo _, ?_⟩; conv => whnf)
          | (refine And.intro (fun _ => ?_) tf; conv => whnf)
          | (refine And.intro ft (fun _ => ?_); conv => whnf)
          | (refine And.intro (by kernel_rfl) ?_; conv => whnf)
          | (refine And.intro (by decide) ?_; conv => whnf)
          | (refine And.intro (fun _ => ?_) (fun h => absurd h (by decide)); conv => whnf)
          | (refine And.intro (fun h => absurd h (by decide)) (fun _ => ?_); conv => whnf)
          | (refine And.intro (fun _ => ?_) (fun _ => ?_) <;> conv => whnf)
          | (refine ⟨_, _, lendO mh rfl (flat_hE _ _), ?_⟩; conv => whnf)))
        all_goals try (refine Or.inl ?_; conv => whnf)
      all_goals try exact (noLt ‹_›).elim
      all_goals refine ⟨[], ?_⟩
      repeat (any_goals (first | exact True.intro | exact rfl | with_reducible_and_instances rfl | exact (by kernel_rfl) | refine And.intro ?_ ?_))
      all_goals conv => whnf
end Go.Proofs.Ytbjmdnemeidpjaa
/- The document's Sums. -/
namespace Go.Proofs.Ytbjmdnemeidpjaa
set_option linter.unusedSimpArgs false
set_option linter.unusedVariables false
open Go.RowKit
set_option maxRecDepth 100000
theorem told_le {z : Int} (h : 0 ≤ z) : ((toldZ z).2 == 0) = decide (z ≤ 9223372036854775807) := by
  by_cases q : z ≤ 9223372036854775807
  · rw [told_in (show in64 z by unfold in64; omega), decide_eq_true q]; rfl
  · rw [told_out (show ¬ in64 z by unfold in64; omega), decide_eq_false q]; rfl
theorem few_sumS {l : List Cel} (hl : ∀ c ∈ l, CelOK c) (hn : l.length ≤ 1000) : few 9 (sumS l) := by
  have h : ∀ (l : List Cel), (∀ c ∈ l, CelOK c) → -170141183460469231731687303715884105728 * (l.length : Int) ≤ sumS l ∧ sumS l ≤ 170141183460469231731687303715884105728 * (l.length : Int) := by
    intro l
    induction l with
    | nil => intro _; exact ⟨Int.le_refl _, Int.le_refl _⟩
    | cons c l ih =>
      intro hl
      have h1 := ih fun d hd => hl d (List.mem_cons_of_mem _ hd)
      have h2 := (hl c (List.mem_cons_self ..)).s
      unfold in128 in64 hiZ word at h2
      have e : sumS (c :: l) = c.s + sumS l := by unfold sumS; simp
      rw [e, List.length_cons]
      omega
  have := h l hl
  unfold few
  have e : (65536 : Nat) ^ 9 = 22300745198530623141535718272648361505980416 := by decide
  rw [e]; omega
theorem numZ : List.map D.v (tiOf Try.prog 78).zero = [bD false, .v (.slice none 0 0)] := by kernel_rfl
set_option maxHeartbeats 16000000 in
theorem refSums_sat (l : List Cel) (hl : ∀ c ∈ l, CelOK c) (hR : ∀ c ∈ l, RightC c) (hn : l.length ≤ 1000) : Sat Try.prog 42 [.d (.sl 72 (l.map cR))] [] (bA (fitsC l)) [] := by
  have hm : (l.map cR).length = l.length := List.length_map _
  refine sat_of_vc (T := tiOf Try.prog) (E := E0) Try.func42 rfl rfl hE0 hm0 rfl ?_
  conv => whnf
  iterate 2
    repeat (any_goals (first
      | exact True.intro
      | (refine And.intro (fun _ => ?_) tf; conv => whnf)
      | (refine And.intro ft (fun _ => ?_); conv => whnf)
      | (refine And.intro (by kernel_rfl) ?_; conv => whnf)
      | (refine And.intro (by decide) ?_; conv => whnf)
      | (refine And.intro (fun _ => ?_) (fun h => absurd h (by decide)); conv => whnf)
      | (refine And.intro (fun h => absurd h (by decide)) (fun _ => ?_); conv => whnf)
      | (refine And.intro (fun _ => ?_) (fun _ => ?_) <;> conv => whnf)))
    all_goals try (refine Or.inl ?_; conv => whnf)
  refine ⟨Nat × Int × List Int, fun y => y.1 ≤ l.length ∧ y.2.1 = sumS (l.take y.1) ∧ y.2.2 = canL y.2.1.natAbs, fun y => ([(7, iA y.1), (6, .ptr 3 0), (5, .own 2), (4, .own 1), (3, .own 0), (0, .d (.sl 72 (l.map cR)))], [.sl 1 ((l.take y.1).map fun c => lR c.n), .sl 1 ((l.take y.1).map fun c => lR c.ce), .sl 1 ((l.take y.1).map fun c => lR c.po), .cells [bA (decide (y.2.1 < 0)), .d (lD y.2.2)]]), fun y => l.length - y.1, ⟨(0, 0, []), ⟨Nat.zero_le _, rfl, canL_zero.symm⟩, ?_⟩, ?_⟩
  · all_goals refine ⟨[], ?_⟩
    repeat (any_goals (first | exact True.intro | exact rfl | with_reducible_and_instances rfl | exact (by kernel_rfl) | refine And.intro ?_ ?_))
    all_goals conv => whnf
  rintro ⟨k, S, d⟩ ⟨(hk : k ≤ l.length), (hS : S = sumS (l.take k)), (hd : d = canL S.natAbs)⟩
  subst hd
  have n1 : ((l.take k).map fun c => lR c.n).length = k := by simp; omega
  have n2 : ((l.take k).map fun c => lR c.ce).length = k := by simp; omega
  have n3 : ((l.take k).map fun c => lR c.po).length = k := by simp; omega
  have fS : few 9 S := by rw [hS]; exact few_sumS (fun c hc => hl c (List.mem_of_mem_take hc)) (by rw [List.length_take]; omega)
  conv => whnf
  by_cases hlt : k < l.length
  · have hx : l[k]? = some l[k] := List.getElem?_eq_getElem hlt
    have hc := hl _ (List.getElem_mem hlt)
    have hss := sumS_succ hx
    generalize l[k] = c at hx hc hss
    rw [← hS] at hss
    have w1 := wide_num (hiZ c.s) (loZ c.s) hc.s (by unfold loZ word; omega) (by unfold loZ word; omega)
    rw [wide_split] at w1
    have a1 := add_few (k := 9) (by omega) fS (few_mono (few_in128 hc.s) (by omega))
    iterate 6
      repeat (any_goals (first
        | exact True.intro
        | (refine ⟨k, _, rfl, map_get hx, ?_⟩; conv => whnf)
        | (refine ⟨_, drop_id, ?_⟩; conv => whnf)
        | (refine ⟨_, _, at_n, ?_⟩; conv => whnf)
        | (refine ⟨_, _, at_hi, ?_⟩; conv => whnf)
        | (refine ⟨_, _, at_lo, ?_⟩; conv => whnf)
        | (refine ⟨_, _, at_mn, ?_⟩; conv => whnf)
        | (refine ⟨_, _, at_mx, ?_⟩; conv => whnf)
        | (refine ⟨_, _, at_ce, ?_⟩; conv => whnf)
        | (refine ⟨_, _, at_po, ?_⟩; conv => whnf)
        | (refine ⟨_, whole_z sC, clenz sC, ?_⟩; conv => whnf)
        | (refine ⟨_, setzC, ?_⟩; conv => whnf)
        | (refine And.intro (clenz sC) ?_; conv => whnf)
        | (refine And.intro fitzC ?_; conv => whnf)
        | (refine ⟨_, whole_z sF, clenz sF, ?_⟩; conv => whnf)
        | (refine ⟨_, setzF, ?_⟩; conv => whnf)
        | (refine And.intro (clenz sF) ?_; conv => whnf)
        | (refine And.intro fitzF ?_; conv => whnf)
        | (refine And.intro (fit1 rfl (by decide)) ?_; conv => whnf)
        | (refine ⟨_, sum_cell s25, rfl, ?_⟩; conv => whnf)
        | (refine ⟨_, set_n _, ?_⟩; conv => whnf)
        | (refine ⟨_, set_mn _, ?_⟩; conv => whnf)
        | (refine ⟨_, set_mx _, ?_⟩; conv => whnf)
        | (refine ⟨_, set_ce _, ?_⟩; conv => whnf)
        | (refine ⟨_, set_po _, ?_⟩; conv => whnf)
        | (refine ⟨_, set_s _, ?_⟩; conv => whnf)
        | (refine ⟨_, set_hi _, ?_⟩; conv => whnf)
        | (refine ⟨_, set_lo _, ?_⟩; conv => whnf)
        | (refine And.intro (fun _ => ?_) tf; conv => whnf)
        | (refine And.intro ft (fun _ => ?_); conv => whnf)
        | (refine And.intro (by kernel_rfl) ?_; conv => whnf)
        | (refine And.intro (by decide) ?_; conv => whnf)
        | (refine And.intro (fun _ => ?_) (fun h => absurd h (by decide)); conv => whnf)
        | (refine And.intro (fun h => absurd h (by decide)) (fun _ => ?_); conv => whnf)
        | (refine And.intro (fun _ => ?_) (fun _ => ?_) <;> conv => whnf)
        | (refine ⟨_, _, ap 1 8 (by kernel_rfl) rfl rfl (by simp [n1, n2, n3]; omega), ?_⟩; conv => whnf)
        | (refine ⟨_, _, w1.pu rfl rfl, ?_⟩; conv => whnf)
        | (refine ⟨_, _, a1.pu rfl rfl, ?_⟩; conv => whnf)))
      all_goals try (refine Or.inl ?_; conv => whnf)
    all_goals try exact (noGe hlt ‹_›).elim
    refine ⟨(k + 1, S + c.s, canL (S + c.s).natAbs), ⟨hlt, hss.symm, rfl⟩, show l.length - (k + 1) < l.length - k by omega, ?_⟩
    all_goals refine ⟨[(0, 5), (1, 7), (2, 9)], ?_⟩
    repeat (any_goals (first | exact True.intro | exact rfl | with_reducible_and_instances rfl | exact (by kernel_rfl) | refine And.intro ?_ ?_))
    all_goals conv => whnf
    · exact wk1 (by omega)
    · exact congrArg (AObj.sl 1) (map_take_succ (f := fun c : Cel => lR c.n) hx).symm
    · exact congrArg (AObj.sl 1) (map_take_succ (f := fun c : Cel => lR c.ce) hx).symm
    · exact congrArg (AObj.sl 1) (map_take_succ (f := fun c : Cel => lR c.po) hx).symm
  · have hke : k = l.length := by omega
    subst hke
    rw [List.take_length] at hS
    have c1 : ∀ z ∈ l.map (·.n), in64 z := fun z hz => by obtain ⟨c, hc, rfl⟩ := List.mem_map.1 hz; exact (hl c hc).n
    have c2 : ∀ z ∈ l.map (·.ce), in64 z := fun z hz => by obtain ⟨c, hc, rfl⟩ := List.mem_map.1 hz; exact (hl c hc).ce
    have c3 : ∀ z ∈ l.map (·.po), in64 z := fun z hz => by obtain ⟨c, hc, rfl⟩ := List.mem_map.1 hz; exact (hl c hc).po
    have s1 := sum_num (l.map (·.n)) c1 (by rw [List.length_map]; omega)
    have s2 := sum_num (l.map (·.ce)) c2 (by rw [List.length_map]; omega)
    have s3 := sum_num (l.map (·.po)) c3 (by rw [List.length_map]; omega)
    rw [show lD (l.map (·.n)) = .sl 1 ((l.take l.length).map fun c => lR c.n) from congrArg (D.sl 1) (by rw [List.take_length, List.map_map]; rfl)] at s1
    rw [show lD (l.map (·.ce)) = .sl 1 ((l.take l.length).map fun c => lR c.ce) from congrArg (D.sl 1) (by rw [List.take_length, List.map_map]; rfl)] at s2
    rw [show lD (l.map (·.po)) = .sl 1 ((l.take l.length).map fun c => lR c.po) from congrArg (D.sl 1) (by rw [List.take_length, List.map_map]; rfl)] at s3
    change Sat _ _ _ _ (.tup [iA (toldZ (sumN l)).1, iA (toldZ (sumN l)).2]) _ at s1
    change Sat _ _ _ _ (.tup [iA (toldZ (sumCe l)).1, iA (toldZ (sumCe l)).2]) _ at s2
    change Sat _ _ _ _ (.tup [iA (toldZ (sumPo l)).1, iA (toldZ (sumPo l)).2]) _ at s3
    have w3 := words_num S fS
    have w3 : ∃ (hi lo : Int), Sat Try.prog 32 [.d (numD S)] [] (.tup [iA hi, uN lo, bA (decide (in128 S))]) [] := by
      by_cases h : in64 (hiZ S)
      · rw [if_pos h] at w3
        exact ⟨_, _, by rw [decide_eq_true (p := in128 S) h]; exact w3⟩
      · rw [if_neg h] at w3
        exact ⟨0, 0, by rw [decide_eq_false (p := in128 S) h]; exact w3⟩
    obtain ⟨hi, lo, w3⟩ := w3
    have hfit : fitsC l = ((toldZ (sumN l)).2 == 0 && (toldZ (sumCe l)).2 == 0 && (toldZ (sumPo l)).2 == 0 && decide (in128 S)) := by
      have e1 : ((toldZ (sumN l)).2 == 0) = decide (sumN l ≤ 9223372036854775807) := told_le (sumBy_nonneg (f := (·.n)) fun c hc => (hR c hc).n)
      have e2 : ((toldZ (sumCe l)).2 == 0) = decide (sumCe l ≤ 9223372036854775807) := told_le (sumBy_nonneg (f := (·.ce)) fun c hc => (hR c hc).ce)
      have e3 : ((toldZ (sumPo l)).2 == 0) = decide (sumPo l ≤ 9223372036854775807) := told_le (sumBy_nonneg (f := (·.po)) fun c hc => (hR c hc).po)
      rw [e1, e2, e3, fits_iff, hS]
    rw [hfit]
    generalize decide (in128 S) = B at *
    generalize toldZ (sumN l) = T1 at *
    generalize toldZ (sumCe l) = T2 at *
    generalize toldZ (sumPo l) = T3 at *
    iterate 4
      repeat (any_goals (first
        | exact True.intro
        | (refine And.intro (fun _ => ?_) tf; conv => whnf)
        | (refine And.intro ft (fun _ => ?_); conv => whnf)
        | (refine And.intro (by kernel_rfl) ?_; conv => whnf)
        | (refine And.intro (by decide) ?_; conv => whnf)
        | (refine And.intro (fun _ => ?_) (fun h => absurd h (by decide)); conv => whnf)
        | (refine And.intro (fun h => absurd h (by decide)) (fun _ => ?_); conv => whnf)
        | (refine And.intro (fun _ => ?_) (fun _ => ?_) <;> conv => whnf)
        | (refine ⟨_, _, lendO s1 rfl rfl, ?_⟩; conv => whnf)
        | (refine ⟨_, _, lendO s2 rfl rfl, ?_⟩; conv => whnf)
        | (refine ⟨_, _, lendO s3 rfl rfl, ?_⟩; conv => whnf)
        | (refine ⟨_, _, w3.pu rfl rfl, ?_⟩; conv => whnf)))
      all_goals try (refine Or.inl ?_; conv => whnf)
    all_goals try exact (noLt ‹_›).elim
    · rw [‹(T1.2 == 0) = true›, ‹(T2.2 == 0) = true›, ‹(T3.2 == 0) = true›]
      all_goals refine ⟨[], ?_⟩
      repeat (any_goals (first | exact True.intro | exact rfl | with_reducible_and_instances rfl | exact (by kernel_rfl) | refine And.intro ?_ ?_))
      all_goals conv => whnf
    · rw [‹(T1.2 == 0) = true›, ‹(T2.2 == 0) = true›, ‹(T3.2 == 0) = false›]
      all_goals refine ⟨[], ?_⟩
      repeat (any_goals (first | exact True.intro | exact rfl | with_reducible_and_instances rfl | exact (by kernel_rfl) | refine And.intro ?_ ?_))
      all_goals conv => whnf
    · rw [‹(T1.2 == 0) = true›, ‹(T2.2 == 0) = false›]
      all_goals refine ⟨[], ?_⟩
      repeat (any_goals (first | exact True.intro | exact rfl | with_reducible_and_instances rfl | exact (by kernel_rfl) | refine And.intro ?_ ?_))
      all_goals conv => whnf
    · rw [‹(T1.2 == 0) = false›]
      all_goals refine ⟨[], ?_⟩
      repeat (any_goals (first | exact True.intro | exact rfl | with_reducible_and_instances rfl | exact (by kernel_rfl) | refine And.intro ?_ ?_))
      all_goals conv => whnf
end Go.Proofs.Ytbjmdnemeidpjaa
/- The document's Merge: its plain part. -/
namespace Go.Proofs.Ytbjmdnemeidpjaa
set_option linter.unusedSimpArgs false
set_option linter.unusedVariables false
open Go.RowKit
set_option maxRecDepth 100000
/-- Cells together, but for their sums. -/
def bj (l : List Cel) : Cel := ⟨sumN l, 0, mmin ((full l).map (·.mn)), mmax ((full l).map (·.mx)), sumCe l, sumPo l, mergeL (l.map (·.h))⟩
def bare (c : Cel) : Cel := ⟨c.n, 0, c.mn, c.mx, c.ce, c.po, c.h⟩
theorem set_lo2 {n s mn mx ce po : Int} {h : List Int} (x : Int) : sets (cR ⟨n, wideZ (hiZ x) (loZ s), mn, mx, ce, po, h⟩) (0 + 2) [uZ (loZ x)] = cR ⟨n, x, mn, mx, ce, po, h⟩ := by
  rw [set_lo, wideZ_two]
theorem mergeL_at {ls : List (List Int)} {b : Nat} (hb : b < 65) : (mergeL ls)[b]?.getD 0 = sumAt ls b := by
  unfold mergeL; rw [List.getElem?_map, List.getElem?_range hb]; rfl
theorem mergeL_len (ls : List (List Int)) : (mergeL ls).length = 65 := by simp [mergeL]
theorem mergeL_ok {ls : List (List Int)} (h : ls.all okH = true) : okH (mergeL ls) = true := by
  unfold okH
  refine List.all_eq_true.2 fun x hx => decide_eq_true ?_
  unfold mergeL at hx
  obtain ⟨j, _, rfl⟩ := List.mem_map.1 hx
  exact sumAt_nonneg ls j h
theorem sumN_zero : ∀ {l : List Cel}, (∀ c ∈ l, 0 ≤ c.n) → (sumN l = 0 ↔ full l = [])
  | [], _ => by simp [sumN, full]
  | c :: l, h => by
    have ih := sumN_zero (l := l) fun d hd => h d (List.mem_cons_of_mem _ hd)
    have h0 := h c (List.mem_cons_self ..)
    have h1 : 0 ≤ sumN l := sumBy_nonneg (f := (·.n)) fun d hd => h d (List.mem_cons_of_mem _ hd)
    have e : sumN (c :: l) = c.n + sumN l := by unfold sumN; simp
    rw [e]
    unfold full at *
    by_cases q : c.n = 0
    · rw [List.filter_cons_of_neg (by simp [q]), ← ih]; omega
    · rw [List.filter_cons_of_pos (by simp [q])]
      simp; omega
theorem bj_step {l : List Cel} (hl : ∀ c ∈ l, CelOK c) (hR : ∀ c ∈ l, RightC c) (hf : fitsC l = true) {k : Nat} {c : Cel} (hx : l[k]? = some c) : fits2 (bj (l.take k)) (bare c) ∧ join2 (bj (l.take k)) (bare c) = bj (l.take (k + 1)) := by
  have hmem := List.mem_of_getElem? hx
  rw [fits_iff] at hf
  simp only [Bool.and_eq_true, decide_eq_true_eq] at hf
  obtain ⟨⟨⟨f1, f2⟩, f3⟩, f4⟩ := hf
  have a1 := sumBy_take (f := (·.n)) (l := l) (fun c hc => (hR c hc).n) (k + 1)
  have a2 := sumBy_take (f := (·.ce)) (l := l) (fun c hc => (hR c hc).ce) (k + 1)
  have a3 := sumBy_take (f := (·.po)) (l := l) (fun c hc => (hR c hc).po) (k + 1)
  have s1 := sumBy_succ (f := (·.n)) hx
  have s2 := sumBy_succ (f := (·.ce)) hx
  have s3 := sumBy_succ (f := (·.po)) hx
  change sumN (l.take (k + 1)) = sumN (l.take k) + c.n at s1
  change sumCe (l.take (k + 1)) = sumCe (l.take k) + c.ce at s2
  change sumPo (l.take (k + 1)) = sumPo (l.take k) + c.po at s3
  change 0 ≤ sumN (l.take (k + 1)) ∧ sumN (l.take (k + 1)) ≤ sumN l at a1
  change 0 ≤ sumCe (l.take (k + 1)) ∧ sumCe (l.take (k + 1)) ≤ sumCe l at a2
  change 0 ≤ sumPo (l.take (k + 1)) ∧ sumPo (l.take (k + 1)) ≤ sumPo l at a3
  have hok : ∀ j, ((l.take j).map (·.h)).all okH = true := fun j => by
    rw [List.all_map]
    exact List.all_eq_true.2 fun d hd => (hR d (List.mem_of_mem_take hd)).ok
  have hsA : ∀ j, sumAt [mergeL ((l.take k).map (·.h)), c.h] j = (mergeL ((l.take k).map (·.h)))[j]?.getD 0 + c.h[j]?.getD 0 := fun j => by simp [sumAt]
  have hss : ∀ j, sumAt ((l.take (k + 1)).map (·.h)) j = sumAt ((l.take k).map (·.h)) j + c.h[j]?.getD 0 := fun j => by
    rw [List.map_take, List.map_take]
    exact sumAt_snoc (by rw [List.getElem?_map, hx]; rfl) j
  have hle : ∀ j, j < 65 → sumAt ((l.take (k + 1)).map (·.h)) j ≤ 9223372036854775807 := fun j hj => by
    have := sumAt_le (l := l.take (k + 1)) (fun d hd => hR d (List.mem_of_mem_take hd)) (fun d hd => (hl d (List.mem_of_mem_take hd)).hl) hj
    omega
  obtain ⟨m1, m2⟩ := merge_fine (ls := [mergeL ((l.take k).map (·.h)), c.h]) (by rw [List.all_cons, List.all_cons, mergeL_ok (hok k), (hR c hmem).ok]; rfl) (fun j hj => by
    rw [hsA, mergeL_at hj, ← hss]; exact hle j hj)
  have m3 : mergeL [mergeL ((l.take k).map (·.h)), c.h] = mergeL ((l.take (k + 1)).map (·.h)) := by
    refine ext65 (mergeL_len _) (mergeL_len _) fun j hj => ?_
    rw [mergeL_at hj, mergeL_at hj, hsA, mergeL_at hj, hss]
  refine ⟨⟨?_, ?_, ?_, m1, ?_⟩, ?_⟩
  · show in64 (sumN (l.take k) + c.n); unfold in64; omega
  · show in64 (sumCe (l.take k) + c.ce); unfold in64; omega
  · show in64 (sumPo (l.take k) + c.po); unfold in64; omega
  · show in128 (0 + 0); decide
  have hfs := full_succ hx
  have hz := sumN_zero (l := l.take k) fun d hd => (hR d (List.mem_of_mem_take hd)).n
  refine Cel.ext' s1.symm rfl ?_ ?_ s2.symm s3.symm (by show mergeR [mergeL ((l.take k).map (·.h)), c.h] = _; rw [m2, m3]; rfl)
  · show lowZ2 (bj (l.take k)) (bare c) = mmin ((full (l.take (k + 1))).map (·.mn))
    unfold lowZ2
    rw [hfs]
    by_cases q : c.n = 0
    · rw [if_pos (show (bare c).n = 0 from q), if_pos q, List.append_nil]; rfl
    · rw [if_neg (show ¬ (bare c).n = 0 from q), if_neg q, List.map_append]
      show _ = mmin (_ ++ [c.mn])
      rw [mmin_snoc]
      by_cases q2 : full (l.take k) = []
      · rw [if_pos (show (bj (l.take k)).n = 0 from hz.2 q2), if_pos (by rw [q2]; rfl)]; rfl
      · rw [if_neg (show ¬ (bj (l.take k)).n = 0 from fun q3 => q2 (hz.1 q3)), if_neg (fun q3 => q2 (List.map_eq_nil_iff.1 q3))]; rfl
  · show highZ2 (bj (l.take k)) (bare c) = mmax ((full (l.take (k + 1))).map (·.mx))
    unfold highZ2
    rw [hfs]
    by_cases q : c.n = 0
    · rw [if_pos (show (bare c).n = 0 from q), if_pos q, List.append_nil]; rfl
    · rw [if_neg (show ¬ (bare c).n = 0 from q), if_neg q, List.map_append]
      show _ = mmax (_ ++ [c.mx])
      rw [mmax_snoc]
      by_cases q2 : full (l.take k) = []
      · rw [if_pos (show (bj (l.take k)).n = 0 from hz.2 q2), if_pos (by rw [q2]; rfl)]; rfl
      · rw [if_neg (show ¬ (bj (l.take k)).n = 0 from fun q3 => q2 (hz.1 q3)), if_neg (fun q3 => q2 (List.map_eq_nil_iff.1 q3))]; rfl
theorem bj_ok {l : List Cel} (hl : ∀ c ∈ l, CelOK c) (hR : ∀ c ∈ l, RightC c) (hf : fitsC l = true) (k : Nat) : CelOK (bj (l.take k)) := by
  rw [fits_iff] at hf
  simp only [Bool.and_eq_true, decide_eq_true_eq] at hf
  obtain ⟨⟨⟨f1, f2⟩, f3⟩, f4⟩ := hf
  have a1 : 0 ≤ sumN (l.take k) ∧ sumN (l.take k) ≤ sumN l := sumBy_take (f := (·.n)) (l := l) (fun c hc => (hR c hc).n) k
  have a2 : 0 ≤ sumCe (l.take k) ∧ sumCe (l.take k) ≤ sumCe l := sumBy_take (f := (·.ce)) (l := l) (fun c hc => (hR c hc).ce) k
  have a3 : 0 ≤ sumPo (l.take k) ∧ sumPo (l.take k) ≤ sumPo l := sumBy_take (f := (·.po)) (l := l) (fun c hc => (hR c hc).po) k
  have hin : ∀ c ∈ full (l.take k), CelOK c := fun c hc => hl c (List.mem_of_mem_take (List.mem_filter.1 hc).1)
  refine ⟨?_, by show in128 0; decide, ?_, ?_, ?_, ?_, mergeL_len _, ?_⟩
  · show in64 (sumN (l.take k)); unfold in64; omega
  · exact (mm_in fun z hz => by obtain ⟨c, hc, rfl⟩ := List.mem_map.1 hz; exact (hin c hc).mn).1
  · exact (mm_in fun z hz => by obtain ⟨c, hc, rfl⟩ := List.mem_map.1 hz; exact (hin c hc).mx).2
  · show in64 (sumCe (l.take k)); unfold in64; omega
  · show in64 (sumPo (l.take k)); unfold in64; omega
  · intro z hz
    have hz : z ∈ mergeL ((l.take k).map (·.h)) := hz
    unfold mergeL at hz
    obtain ⟨j, hj, rfl⟩ := List.mem_map.1 hz
    have hj := List.mem_range.1 hj
    have h1 := sumAt_nonneg ((l.take k).map (·.h)) j (by rw [List.all_map]; exact List.all_eq_true.2 fun d hd => (hR d (List.mem_of_mem_take hd)).ok)
    have h2 := sumAt_le (l := l.take k) (fun d hd => hR d (List.mem_of_mem_take hd)) (fun d hd => (hl d (List.mem_of_mem_take hd)).hl) hj
    unfold in64
    omega
theorem bare_ok {c : Cel} (h : CelOK c) : CelOK (bare c) := ⟨h.n, by show in128 0; decide, h.mn, h.mx, h.ce, h.po, h.hl, h.hx⟩
theorem bj_join (l : List Cel) : joinC l = ⟨(bj l).n, sumS l, (bj l).mn, (bj l).mx, (bj l).ce, (bj l).po, (bj l).h⟩ := rfl
theorem bj_nil : bj [] = zC := by decide +kernel
end Go.Proofs.Ytbjmdnemeidpjaa
/- The document's Right of a cell. -/
namespace Go.Proofs.Ytbjmdnemeidpjaa
set_option linter.unusedSimpArgs false
set_option linter.unusedVariables false
open Go.RowKit
set_option maxRecDepth 100000
theorem l26 : (tiOf Try.prog 26).len = 65 := by kernel_rfl
theorem right_no4 {c : Cel} (h0 : 0 < c.n) {b : Nat} (hb : b < 65) (h1 : 0 < hAt c.h b) (h2 : b < bkt c.mn ∨ bkt c.mx < b) : rightC c = false := by
  rw [← Bool.not_eq_true]
  intro q
  have := (right_iff.1 q).all (by omega) b hb (by omega)
  omega
theorem right_no5 {c : Cel} {b : Nat} (hl : c.h.length = 65) (hb : b < 65) (h1 : hAt c.h b < 0) : rightC c = false := by
  refine right_no2 ?_
  rw [← Bool.not_eq_true]
  intro q
  have := okH_at q b
  unfold hAt at h1
  omega
theorem cmpZ_zero {x y : Int} : (cmpZ x y != 0) = !decide (x = y) := by
  unfold cmpZ
  by_cases h : x = y
  · rw [if_pos h, decide_eq_true h]; rfl
  · rw [if_neg h, decide_eq_false h]
    split <;> rfl
theorem no_cmp {x y : Int} (h : x = y) (q : (cmpZ x y != 0) = true) : False := by rw [cmpZ_zero, decide_eq_true h] at q; exact Bool.noConfusion q
theorem no_cmp2 {x y : Int} (h : ¬ x = y) (q : (cmpZ x y != 0) = false) : False := by rw [cmpZ_zero, decide_eq_false h] at q; exact Bool.noConfusion q
theorem and_t {a b : Bool} (h : a = true) (h' : b = true) : (a && b) = true := by rw [h, h']; rfl
theorem and_f1 {a b : Bool} (h : a = false) : (a && b) = false := by rw [h]; rfl
theorem and_f2 {a b : Bool} (h : b = false) : (a && b) = false := by rw [h, Bool.and_false]
set_option maxHeartbeats 16000000 in
theorem refRight_sat_c (c : Cel) (hc : CelOK c) : Sat Try.prog 14 [.d (cD c)] [] (bA (rightC c)) [] := by
  have hl := hc.hl
  have hx := hc.hx
  have b1 := refBucket_sat c.mn hc.mn
  have b2 := refBucket_sat c.mx hc.mx
  have k1 := bkt_lt c.mn hc.mn.2
  have k2 := bkt_lt c.mx hc.mx.2
  refine sat_of_vc (T := tiOf Try.prog) (E := E0) Try.func14 rfl rfl hE0 hm0 rfl ?_
  conv => whnf
  by_cases h0 : 0 ≤ c.n ∧ 0 ≤ c.ce ∧ 0 ≤ c.po ∧ c.mn ≤ c.mx
  case neg =>
    rw [right_no h0]
    iterate 2
      repeat (any_goals (first
        | exact True.intro
        | (refine ⟨_, drop_id, ?_⟩; conv => whnf)
        | (refine ⟨_, _, at_n, ?_⟩; conv => whnf)
        | (refine ⟨_, _, at_hi, ?_⟩; conv => whnf)
        | (refine ⟨_, _, at_lo, ?_⟩; conv => whnf)
        | (refine ⟨_, _, at_mn, ?_⟩; conv => whnf)
        | (refine ⟨_, _, at_mx, ?_⟩; conv => whnf)
        | (refine ⟨_, _, at_ce, ?_⟩; conv => whnf)
        | (refine ⟨_, _, at_po, ?_⟩; conv => whnf)
        | (refine ⟨_, whole_z sC, clenz sC, ?_⟩; conv => whnf)
        | (refine ⟨_, setzC, ?_⟩; conv => whnf)
        | (refine And.intro (clenz sC) ?_; conv => whnf)
        | (refine And.intro fitzC ?_; conv => whnf)
        | (refine ⟨_, whole_cell sC hl, clen sC hl, ?_⟩; conv => whnf)
        | (refine And.intro (clen sC hl) ?_; conv => whnf)
        | (refine And.intro (fitC hl) ?_; conv => whnf)
        | (refine ⟨_, setC hl, ?_⟩; conv => whnf)
        | (refine ⟨_, whole_z sF, clenz sF, ?_⟩; conv => whnf)
        | (refine ⟨_, setzF, ?_⟩; conv => whnf)
        | (refine And.intro (clenz sF) ?_; conv => whnf)
        | (refine And.intro fitzF ?_; conv => whnf)
        | (refine ⟨_, whole_cell sF hl, clen sF hl, ?_⟩; conv => whnf)
        | (refine And.intro (clen sF hl) ?_; conv => whnf)
        | (refine And.intro (fitF hl) ?_; conv => whnf)
        | (refine ⟨_, setF hl, ?_⟩; conv => whnf)
        | (refine And.intro (fit1 hl (by decide)) ?_; conv => whnf)
        | (refine And.intro (fit1 rfl (by decide)) ?_; conv => whnf)
        | (refine ⟨_, sum_cell s25, rfl, ?_⟩; conv => whnf)
        | (refine ⟨_, set_n _, ?_⟩; conv => whnf)
        | (refine ⟨_, set_mn _, ?_⟩; conv => whnf)
        | (refine ⟨_, set_mx _, ?_⟩; conv => whnf)
        | (refine ⟨_, set_ce _, ?_⟩; conv => whnf)
        | (refine ⟨_, set_po _, ?_⟩; conv => whnf)
        | (refine ⟨_, set_s _, ?_⟩; conv => whnf)
        | (refine ⟨_, set_hi _, ?_⟩; conv => whnf)
        | (refine ⟨_, set_lo _, ?_⟩; conv => whnf)
        | (refine And.intro (fun _ => ?_) tf; conv => whnf)
        | (refine And.intro ft (fun _ => ?_); conv => whnf)
        | (refine And.intro (by kernel_rfl) ?_; conv => whnf)
        | (refine And.intro (by decide) ?_; conv => whnf)
        | (refine And.intro (fun _ => ?_) (fun h => absurd h (by decide)); conv => whnf)
        | (refine And.intro (fun h => absurd h (by decide)) (fun _ => ?_); conv => whnf)
        | (refine And.intro (fun _ => ?_) (fun _ => ?_) <;> conv => whnf)))
      all_goals try (refine Or.inl ?_; conv => whnf)
    all_goals try (exfalso; simp only [decide_eq_true_eq, decide_eq_false_iff_not] at *; omega)
    all_goals refine ⟨[], ?_⟩
    repeat (any_goals (first | exact True.intro | exact rfl | with_reducible_and_instances rfl | exact (by kernel_rfl) | refine And.intro ?_ ?_))
    all_goals conv => whnf
  iterate 2
    repeat (any_goals (first
      | exact True.intro
      | (refine ⟨_, drop_id, ?_⟩; conv => whnf)
      | (refine ⟨_, _, at_n, ?_⟩; conv => whnf)
      | (refine ⟨_, _, at_hi, ?_⟩; conv => whnf)
      | (refine ⟨_, _, at_lo, ?_⟩; conv => whnf)
      | (refine ⟨_, _, at_mn, ?_⟩; conv => whnf)
      | (refine ⟨_, _, at_mx, ?_⟩; conv => whnf)
      | (refine ⟨_, _, at_ce, ?_⟩; conv => whnf)
      | (refine ⟨_, _, at_po, ?_⟩; conv => whnf)
      | (refine ⟨_, whole_z sC, clenz sC, ?_⟩; conv => whnf)
      | (refine ⟨_, setzC, ?_⟩; conv => whnf)
      | (refine And.intro (clenz sC) ?_; conv => whnf)
      | (refine And.intro fitzC ?_; conv => whnf)
      | (refine ⟨_, whole_cell sC hl, clen sC hl, ?_⟩; conv => whnf)
      | (refine And.intro (clen sC hl) ?_; conv => whnf)
      | (refine And.intro (fitC hl) ?_; conv => whnf)
      | (refine ⟨_, setC hl, ?_⟩; conv => whnf)
      | (refine ⟨_, whole_z sF, clenz sF, ?_⟩; conv => whnf)
      | (refine ⟨_, setzF, ?_⟩; conv => whnf)
      | (refine And.intro (clenz sF) ?_; conv => whnf)
      | (refine And.intro fitzF ?_; conv => whnf)
      | (refine ⟨_, whole_cell sF hl, clen sF hl, ?_⟩; conv => whnf)
      | (refine And.intro (clen sF hl) ?_; conv => whnf)
      | (refine And.intro (fitF hl) ?_; conv => whnf)
      | (refine ⟨_, setF hl, ?_⟩; conv => whnf)
      | (refine And.intro (fit1 hl (by decide)) ?_; conv => whnf)
      | (refine And.intro (fit1 rfl (by decide)) ?_; conv => whnf)
      | (refine ⟨_, sum_cell s25, rfl, ?_⟩; conv => whnf)
      | (refine ⟨_, set_n _, ?_⟩; conv => whnf)
      | (refine ⟨_, set_mn _, ?_⟩; conv => whnf)
      | (refine ⟨_, set_mx _, ?_⟩; conv => whnf)
      | (refine ⟨_, set_ce _, ?_⟩; conv => whnf)
      | (refine ⟨_, set_po _, ?_⟩; conv => whnf)
      | (refine ⟨_, set_s _, ?_⟩; conv => whnf)
      | (refine ⟨_, set_hi _, ?_⟩; conv => whnf)
      | (refine ⟨_, set_lo _, ?_⟩; conv => whnf)
      | (refine And.intro (fun _ => ?_) tf; conv => whnf)
      | (refine And.intro ft (fun _ => ?_); conv => whnf)
      | (refine And.intro (by kernel_rfl) ?_; conv => whnf)
      | (refine And.intro (by decide) ?_; conv => whnf)
      | (refine And.intro (fun _ => ?_) (fun h => absurd h (by decide)); conv => whnf)
      | (refine And.intro (fun h => absurd h (by decide)) (fun _ => ?_); conv => whnf)
      | (refine And.intro (fun _ => ?_) (fun _ => ?_) <;> conv => whnf)))
    all_goals try (refine Or.inl ?_; conv => whnf)
  all_goals try (exfalso; simp only [decide_eq_true_eq, decide_eq_false_iff_not] at *; omega)
  repeat (any_goals (first
    | exact True.intro
    | (refine ⟨_, drop_id, ?_⟩; conv => whnf)
    | (refine ⟨_, _, at_n, ?_⟩; conv => whnf)
    | (refine ⟨_, _, at_hi, ?_⟩; conv => whnf)
    | (refine ⟨_, _, at_lo, ?_⟩; conv => whnf)
    | (refine ⟨_, _, at_mn, ?_⟩; conv => whnf)
    | (refine ⟨_, _, at_mx, ?_⟩; conv => whnf)
    | (refine ⟨_, _, at_ce, ?_⟩; conv => whnf)
    | (refine ⟨_, _, at_po, ?_⟩; conv => whnf)
    | (refine ⟨_, whole_z sC, clenz sC, ?_⟩; conv => whnf)
    | (refine ⟨_, setzC, ?_⟩; conv => whnf)
    | (refine And.intro (clenz sC) ?_; conv => whnf)
    | (refine And.intro fitzC ?_; conv => whnf)
    | (refine ⟨_, whole_cell sC hl, clen sC hl, ?_⟩; conv => whnf)
    | (refine And.intro (clen sC hl) ?_; conv => whnf)
    | (refine And.intro (fitC hl) ?_; conv => whnf)
    | (refine ⟨_, setC hl, ?_⟩; conv => whnf)
    | (refine ⟨_, whole_z sF, clenz sF, ?_⟩; conv => whnf)
    | (refine ⟨_, setzF, ?_⟩; conv => whnf)
    | (refine And.intro (clenz sF) ?_; conv => whnf)
    | (refine And.intro fitzF ?_; conv => whnf)
    | (refine ⟨_, whole_cell sF hl, clen sF hl, ?_⟩; conv => whnf)
    | (refine And.intro (clen sF hl) ?_; conv => whnf)
    | (refine And.intro (fitF hl) ?_; conv => whnf)
    | (refine ⟨_, setF hl, ?_⟩; conv => whnf)
    | (refine And.intro (fit1 hl (by decide)) ?_; conv => whnf)
    | (refine And.intro (fit1 rfl (by decide)) ?_; conv => whnf)
    | (refine ⟨_, sum_cell s25, rfl, ?_⟩; conv => whnf)
    | (refine ⟨_, set_n _, ?_⟩; conv => whnf)
    | (refine ⟨_, set_mn _, ?_⟩; conv => whnf)
    | (refine ⟨_, set_mx _, ?_⟩; conv => whnf)
    | (refine ⟨_, set_ce _, ?_⟩; conv => whnf)
    | (refine ⟨_, set_po _, ?_⟩; conv => whnf)
    | (refine ⟨_, set_s _, ?_⟩; conv => whnf)
    | (refine ⟨_, set_hi _, ?_⟩; conv => whnf)
    | (refine ⟨_, set_lo _, ?_⟩; conv => whnf)
    | (refine And.intro (fun _ => ?_) tf; conv => whnf)
    | (refine And.intro ft (fun _ => ?_); conv => whnf)
    | (refine And.intro (by kernel_rfl) ?_; conv => whnf)
    | (refine And.intro (by decide) ?_; conv => whnf)
    | (refine And.intro (fun _ => ?_) (fun h => absurd h (by decide)); conv => whnf)
    | (refine And.intro (fun h => absurd h (by decide)) (fun _ => ?_); conv => whnf)
    | (refine And.intro (fun _ => ?_) (fun _ => ?_) <;> conv => whnf)))
  refine ⟨Nat, fun k => k ≤ 65 ∧ ∀ b, b < k → 0 ≤ hAt c.h b ∧ (0 < c.n → 0 < hAt c.h b → bkt c.mn ≤ b ∧ b ≤ bkt c.mx), fun k => ([(4, iA k), (3, .own 1), (1, .ptr 0 0)], [.row (cR c), .sl 1 ((c.h.take k).map lR)]), fun k => 65 - k, ⟨0, ⟨by omega, fun b hb => absurd hb (by omega)⟩, ?_⟩, ?_⟩
  · all_goals refine ⟨[], ?_⟩
    repeat (any_goals (first | exact True.intro | exact rfl | with_reducible_and_instances rfl | exact (by kernel_rfl) | refine And.intro ?_ ?_))
    all_goals conv => whnf
  rintro k ⟨hk, ho⟩
  have hml : ((c.h.take k).map lR).length = k := by simp; omega
  conv => whnf
  by_cases hlt : k < 65
  · have hat := at_h hl hlt
    have hxk : c.h[k]? = some (hAt c.h k) := by unfold hAt; rw [List.getElem?_eq_getElem (by omega)]; rfl
    have hmap : AObj.sl 1 ((c.h.take k).map lR ++ [lR (hAt c.h k)]) = .sl 1 ((c.h.take (k + 1)).map lR) := congrArg (AObj.sl 1) (map_take_succ (f := lR) hxk).symm
    by_cases p1 : hAt c.h k < 0
    · rw [right_no5 hl hlt p1]
      iterate 4
        repeat (any_goals (first
          | exact True.intro
          | (refine ⟨k, rfl, Nat.lt_of_lt_of_eq hlt l26.symm, ?_⟩; conv => whnf)
          | (refine ⟨_, _, hat, ?_⟩; conv => whnf)
          | (refine ⟨_, drop_id, ?_⟩; conv => whnf)
          | (refine ⟨_, _, at_n, ?_⟩; conv => whnf)
          | (refine ⟨_, _, at_hi, ?_⟩; conv => whnf)
          | (refine ⟨_, _, at_lo, ?_⟩; conv => whnf)
          | (refine ⟨_, _, at_mn, ?_⟩; conv => whnf)
          | (refine ⟨_, _, at_mx, ?_⟩; conv => whnf)
          | (refine ⟨_, _, at_ce, ?_⟩; conv => whnf)
          | (refine ⟨_, _, at_po, ?_⟩; conv => whnf)
          | (refine ⟨_, whole_z sC, clenz sC, ?_⟩; conv => whnf)
          | (refine ⟨_, setzC, ?_⟩; conv => whnf)
          | (refine And.intro (clenz sC) ?_; conv => whnf)
          | (refine And.intro fitzC ?_; conv => whnf)
          | (refine ⟨_, whole_cell sC hl, clen sC hl, ?_⟩; conv => whnf)
          | (refine And.intro (clen sC hl) ?_; conv => whnf)
          | (refine And.intro (fitC hl) ?_; conv => whnf)
          | (refine ⟨_, setC hl, ?_⟩; conv => whnf)
          | (refine ⟨_, whole_z sF, clenz sF, ?_⟩; conv => whnf)
          | (refine ⟨_, setzF, ?_⟩; conv => whnf)
          | (refine And.intro (clenz sF) ?_; conv => whnf)
          | (refine And.intro fitzF ?_; conv => whnf)
          | (refine ⟨_, whole_cell sF hl, clen sF hl, ?_⟩; conv => whnf)
          | (refine And.intro (clen sF hl) ?_; conv => whnf)
          | (refine And.intro (fitF hl) ?_; conv => whnf)
          | (refine ⟨_, setF hl, ?_⟩; conv => whnf)
          | (refine And.intro (fit1 hl (by decide)) ?_; conv => whnf)
          | (refine And.intro (fit1 rfl (by decide)) ?_; conv => whnf)
          | (refine ⟨_, sum_cell s25, rfl, ?_⟩; conv => whnf)
          | (refine ⟨_, set_n _, ?_⟩; conv => whnf)
          | (refine ⟨_, set_mn _, ?_⟩; conv => whnf)
          | (refine ⟨_, set_mx _, ?_⟩; conv => whnf)
          | (refine ⟨_, set_ce _, ?_⟩; conv => whnf)
          | (refine ⟨_, set_po _, ?_⟩; conv => whnf)
          | (refine ⟨_, set_s _, ?_⟩; conv => whnf)
          | (refine ⟨_, set_hi _, ?_⟩; conv => whnf)
          | (refine ⟨_, set_lo _, ?_⟩; conv => whnf)
          | (refine And.intro (fun _ => ?_) tf; conv => whnf)
          | (refine And.intro ft (fun _ => ?_); conv => whnf)
          | (refine And.intro (by kernel_rfl) ?_; conv => whnf)
          | (refine And.intro (by decide) ?_; conv => whnf)
          | (refine And.intro (fun _ => ?_) (fun h => absurd h (by decide)); conv => whnf)
          | (refine And.intro (fun h => absurd h (by decide)) (fun _ => ?_); conv => whnf)
          | (refine And.intro (fun _ => ?_) (fun _ => ?_) <;> conv => whnf)
          | (refine ⟨_, _, b1.pu rfl rfl, ?_⟩; conv => whnf)
          | (refine ⟨_, _, b2.pu rfl rfl, ?_⟩; conv => whnf)))
        all_goals try (exfalso; simp only [decide_eq_true_eq, decide_eq_false_iff_not, Bool.not_eq_true', Bool.not_eq_false', Bool.not_eq_true, Bool.not_eq_false, beq_iff_eq, bne_iff_ne, beq_eq_false_iff_ne, bne_eq_false_iff_eq, ne_eq, Decidable.not_not] at *; first | omega | contradiction | (simp_all; done) | (simp_all; omega))
        all_goals try (refine Or.inl ?_; conv => whnf)
      all_goals refine ⟨[], ?_⟩
      repeat (any_goals (first | exact True.intro | exact rfl | with_reducible_and_instances rfl | exact (by kernel_rfl) | refine And.intro ?_ ?_))
      all_goals conv => whnf
    by_cases p2 : 0 < c.n ∧ 0 < hAt c.h k ∧ (k < bkt c.mn ∨ bkt c.mx < k)
    · rw [right_no4 p2.1 hlt p2.2.1 p2.2.2]
      iterate 4
        repeat (any_goals (first
          | exact True.intro
          | (refine ⟨k, rfl, Nat.lt_of_lt_of_eq hlt l26.symm, ?_⟩; conv => whnf)
          | (refine ⟨_, _, hat, ?_⟩; conv => whnf)
          | (refine ⟨_, drop_id, ?_⟩; conv => whnf)
          | (refine ⟨_, _, at_n, ?_⟩; conv => whnf)
          | (refine ⟨_, _, at_hi, ?_⟩; conv => whnf)
          | (refine ⟨_, _, at_lo, ?_⟩; conv => whnf)
          | (refine ⟨_, _, at_mn, ?_⟩; conv => whnf)
          | (refine ⟨_, _, at_mx, ?_⟩; conv => whnf)
          | (refine ⟨_, _, at_ce, ?_⟩; conv => whnf)
          | (refine ⟨_, _, at_po, ?_⟩; conv => whnf)
          | (refine ⟨_, whole_z sC, clenz sC, ?_⟩; conv => whnf)
          | (refine ⟨_, setzC, ?_⟩; conv => whnf)
          | (refine And.intro (clenz sC) ?_; conv => whnf)
          | (refine And.intro fitzC ?_; conv => whnf)
          | (refine ⟨_, whole_cell sC hl, clen sC hl, ?_⟩; conv => whnf)
          | (refine And.intro (clen sC hl) ?_; conv => whnf)
          | (refine And.intro (fitC hl) ?_; conv => whnf)
          | (refine ⟨_, setC hl, ?_⟩; conv => whnf)
          | (refine ⟨_, whole_z sF, clenz sF, ?_⟩; conv => whnf)
          | (refine ⟨_, setzF, ?_⟩; conv => whnf)
          | (refine And.intro (clenz sF) ?_; conv => whnf)
          | (refine And.intro fitzF ?_; conv => whnf)
          | (refine ⟨_, whole_cell sF hl, clen sF hl, ?_⟩; conv => whnf)
          | (refine And.intro (clen sF hl) ?_; conv => whnf)
          | (refine And.intro (fitF hl) ?_; conv => whnf)
          | (refine ⟨_, setF hl, ?_⟩; conv => whnf)
          | (refine And.intro (fit1 hl (by decide)) ?_; conv => whnf)
          | (refine And.intro (fit1 rfl (by decide)) ?_; conv => whnf)
          | (refine ⟨_, sum_cell s25, rfl, ?_⟩; conv => whnf)
          | (refine ⟨_, set_n _, ?_⟩; conv => whnf)
          | (refine ⟨_, set_mn _, ?_⟩; conv => whnf)
          | (refine ⟨_, set_mx _, ?_⟩; conv => whnf)
          | (refine ⟨_, set_ce _, ?_⟩; conv => whnf)
          | (refine ⟨_, set_po _, ?_⟩; conv => whnf)
          | (refine ⟨_, set_s _, ?_⟩; conv => whnf)
          | (refine ⟨_, set_hi _, ?_⟩; conv => whnf)
          | (refine ⟨_, set_lo _, ?_⟩; conv => whnf)
          | (refine And.intro (fun _ => ?_) tf; conv => whnf)
          | (refine And.intro ft (fun _ => ?_); conv => whnf)
          | (refine And.intro (by kernel_rfl) ?_; conv => whnf)
          | (refine And.intro (by decide) ?_; conv => whnf)
          | (refine And.intro (fun _ => ?_) (fun h => absurd h (by decide)); conv => whnf)
          | (refine And.intro (fun h => absurd h (by decide)) (fun _ => ?_); conv => whnf)
          | (refine And.intro (fun _ => ?_) (fun _ => ?_) <;> conv => whnf)
          | (refine ⟨_, _, b1.pu rfl rfl, ?_⟩; conv => whnf)
          | (refine ⟨_, _, b2.pu rfl rfl, ?_⟩; conv => whnf)))
        all_goals try (exfalso; simp only [decide_eq_true_eq, decide_eq_false_iff_not, Bool.not_eq_true', Bool.not_eq_false', Bool.not_eq_true, Bool.not_eq_false, beq_iff_eq, bne_iff_ne, beq_eq_false_iff_ne, bne_eq_false_iff_eq, ne_eq, Decidable.not_not] at *; first | omega | contradiction | (simp_all; done) | (simp_all; omega))
        all_goals try (refine Or.inl ?_; conv => whnf)
      all_goals refine ⟨[], ?_⟩
      repeat (any_goals (first | exact True.intro | exact rfl | with_reducible_and_instances rfl | exact (by kernel_rfl) | refine And.intro ?_ ?_))
      all_goals conv => whnf
    iterate 5
      repeat (any_goals (first
        | exact True.intro
        | (refine ⟨k, rfl, Nat.lt_of_lt_of_eq hlt l26.symm, ?_⟩; conv => whnf)
        | (refine ⟨_, _, hat, ?_⟩; conv => whnf)
        | (refine ⟨_, drop_id, ?_⟩; conv => whnf)
        | (refine ⟨_, _, at_n, ?_⟩; conv => whnf)
        | (refine ⟨_, _, at_hi, ?_⟩; conv => whnf)
        | (refine ⟨_, _, at_lo, ?_⟩; conv => whnf)
        | (refine ⟨_, _, at_mn, ?_⟩; conv => whnf)
        | (refine ⟨_, _, at_mx, ?_⟩; conv => whnf)
        | (refine ⟨_, _, at_ce, ?_⟩; conv => whnf)
        | (refine ⟨_, _, at_po, ?_⟩; conv => whnf)
        | (refine ⟨_, whole_z sC, clenz sC, ?_⟩; conv => whnf)
        | (refine ⟨_, setzC, ?_⟩; conv => whnf)
        | (refine And.intro (clenz sC) ?_; conv => whnf)
        | (refine And.intro fitzC ?_; conv => whnf)
        | (refine ⟨_, whole_cell sC hl, clen sC hl, ?_⟩; conv => whnf)
        | (refine And.intro (clen sC hl) ?_; conv => whnf)
        | (refine And.intro (fitC hl) ?_; conv => whnf)
        | (refine ⟨_, setC hl, ?_⟩; conv => whnf)
        | (refine ⟨_, whole_z sF, clenz sF, ?_⟩; conv => whnf)
        | (refine ⟨_, setzF, ?_⟩; conv => whnf)
        | (refine And.intro (clenz sF) ?_; conv => whnf)
        | (refine And.intro fitzF ?_; conv => whnf)
        | (refine ⟨_, whole_cell sF hl, clen sF hl, ?_⟩; conv => whnf)
        | (refine And.intro (clen sF hl) ?_; conv => whnf)
        | (refine And.intro (fitF hl) ?_; conv => whnf)
        | (refine ⟨_, setF hl, ?_⟩; conv => whnf)
        | (refine And.intro (fit1 hl (by decide)) ?_; conv => whnf)
        | (refine And.intro (fit1 rfl (by decide)) ?_; conv => whnf)
        | (refine ⟨_, sum_cell s25, rfl, ?_⟩; conv => whnf)
        | (refine ⟨_, set_n _, ?_⟩; conv => whnf)
        | (refine ⟨_, set_mn _, ?_⟩; conv => whnf)
        | (refine ⟨_, set_mx _, ?_⟩; conv => whnf)
        | (refine ⟨_, set_ce _, ?_⟩; conv => whnf)
        | (refine ⟨_, set_po _, ?_⟩; conv => whnf)
        | (refine ⟨_, set_s _, ?_⟩; conv => whnf)
        | (refine ⟨_, set_hi _, ?_⟩; conv => whnf)
        | (refine ⟨_, set_lo _, ?_⟩; conv => whnf)
        | (refine And.intro (fun _ => ?_) tf; conv => whnf)
        | (refine And.intro ft (fun _ => ?_); conv => whnf)
        | (refine And.intro (by kernel_rfl) ?_; conv => whnf)
        | (refine And.intro (by decide) ?_; conv => whnf)
        | (refine And.intro (fun _ => ?_) (fun h => absurd h (by decide)); conv => whnf)
        | (refine And.intro (fun h => absurd h (by decide)) (fun _ => ?_); conv => whnf)
        | (refine And.intro (fun _ => ?_) (fun _ => ?_) <;> conv => whnf)
        | (refine ⟨_, _, b1.pu rfl rfl, ?_⟩; conv => whnf)
        | (refine ⟨_, _, b2.pu rfl rfl, ?_⟩; conv => whnf)
        | (refine ⟨_, _, ap 1 8 (by kernel_rfl) rfl rfl (by simp [hml]; omega), ?_⟩; conv => whnf)))
      all_goals try (exfalso; simp only [decide_eq_true_eq, decide_eq_false_iff_not, Bool.not_eq_true', Bool.not_eq_false', Bool.not_eq_true, Bool.not_eq_false, beq_iff_eq, bne_iff_ne, beq_eq_false_iff_ne, bne_eq_false_iff_eq, ne_eq, Decidable.not_not] at *; first | omega | contradiction | (simp_all; done) | (simp_all; omega))
      all_goals try (refine Or.inl ?_; conv => whnf)
    all_goals refine ⟨k + 1, ⟨hlt, fun b hb => ?_⟩, show 65 - (k + 1) < 65 - k by omega, ?_⟩
    all_goals first
      | (by_cases e : b = k
         · subst e; omega
         · exact ho b (by omega))
      | skip
    all_goals refine ⟨[(1, 3)], ?_⟩
    repeat (any_goals (first | exact True.intro | exact rfl | with_reducible_and_instances rfl | exact (by kernel_rfl) | refine And.intro ?_ ?_))
    all_goals conv => whnf
    all_goals first
      | exact wk1 (by omega)
      | exact hmap
  · have hke : k = 65 := by omega
    subst hke
    rw [List.take_of_length_le (by omega)] at hml
    have hok : okH c.h = true := by
      unfold okH
      refine List.all_eq_true.2 fun x hx => decide_eq_true ?_
      obtain ⟨b, hb, rfl⟩ := List.mem_iff_getElem.1 hx
      have := (ho b (by omega)).1
      unfold hAt at this
      rw [List.getElem?_eq_getElem hb] at this
      exact this
    have t1 := total_num c.h hx (by omega)
    have e1 : D.sl 1 ((c.h.take 65).map lR) = lD c.h := by rw [List.take_of_length_le (by omega)]
    have e2 : (c.h.take 65).map lR = c.h.map lR := by rw [List.take_of_length_le (by omega)]
    rw [show lD c.h = .sl 1 ((c.h.take 65).map lR) from e1.symm] at t1
    have o1 := of_num c.n hc.n
    have m1 := cmp_num (k := 5) (by omega) (few_sum5 hx (by omega)) (few_mono (few_i64 hc.n) (by omega))
    by_cases h3 : c.h.sum = c.n
    case neg =>
      rw [right_no3 h3]
      iterate 5
        repeat (any_goals (first
          | exact True.intro
          | (refine ⟨_, drop_id, ?_⟩; conv => whnf)
          | (refine ⟨_, _, at_n, ?_⟩; conv => whnf)
          | (refine ⟨_, _, at_hi, ?_⟩; conv => whnf)
          | (refine ⟨_, _, at_lo, ?_⟩; conv => whnf)
          | (refine ⟨_, _, at_mn, ?_⟩; conv => whnf)
          | (refine ⟨_, _, at_mx, ?_⟩; conv => whnf)
          | (refine ⟨_, _, at_ce, ?_⟩; conv => whnf)
          | (refine ⟨_, _, at_po, ?_⟩; conv => whnf)
          | (refine ⟨_, whole_z sC, clenz sC, ?_⟩; conv => whnf)
          | (refine ⟨_, setzC, ?_⟩; conv => whnf)
          | (refine And.intro (clenz sC) ?_; conv => whnf)
          | (refine And.intro fitzC ?_; conv => whnf)
          | (refine ⟨_, whole_cell sC hl, clen sC hl, ?_⟩; conv => whnf)
          | (refine And.intro (clen sC hl) ?_; conv => whnf)
          | (refine And.intro (fitC hl) ?_; conv => whnf)
          | (refine ⟨_, setC hl, ?_⟩; conv => whnf)
          | (refine ⟨_, whole_z sF, clenz sF, ?_⟩; conv => whnf)
          | (refine ⟨_, setzF, ?_⟩; conv => whnf)
          | (refine And.intro (clenz sF) ?_; conv => whnf)
          | (refine And.intro fitzF ?_; conv => whnf)
          | (refine ⟨_, whole_cell sF hl, clen sF hl, ?_⟩; conv => whnf)
          | (refine And.intro (clen sF hl) ?_; conv => whnf)
          | (refine And.intro (fitF hl) ?_; conv => whnf)
          | (refine ⟨_, setF hl, ?_⟩; conv => whnf)
          | (refine And.intro (fit1 hl (by decide)) ?_; conv => whnf)
          | (refine And.intro (fit1 rfl (by decide)) ?_; conv => whnf)
          | (refine ⟨_, sum_cell s25, rfl, ?_⟩; conv => whnf)
          | (refine ⟨_, set_n _, ?_⟩; conv => whnf)
          | (refine ⟨_, set_mn _, ?_⟩; conv => whnf)
          | (refine ⟨_, set_mx _, ?_⟩; conv => whnf)
          | (refine ⟨_, set_ce _, ?_⟩; conv => whnf)
          | (refine ⟨_, set_po _, ?_⟩; conv => whnf)
          | (refine ⟨_, set_s _, ?_⟩; conv => whnf)
          | (refine ⟨_, set_hi _, ?_⟩; conv => whnf)
          | (refine ⟨_, set_lo _, ?_⟩; conv => whnf)
          | (refine And.intro (fun _ => ?_) tf; conv => whnf)
          | (refine And.intro ft (fun _ => ?_); conv => whnf)
          | (refine And.intro (by kernel_rfl) ?_; conv => whnf)
          | (refine And.intro (by decide) ?_; conv => whnf)
          | (refine And.intro (fun _ => ?_) (fun h => absurd h (by decide)); conv => whnf)
          | (refine And.intro (fun h => absurd h (by decide)) (fun _ => ?_); conv => whnf)
          | (refine And.intro (fun _ => ?_) (fun _ => ?_) <;> conv => whnf)
          | (refine ⟨_, _, frz_a t1 rfl rfl, ?_⟩; conv => whnf)
          | (refine ⟨_, _, o1.pu rfl rfl, ?_⟩; conv => whnf)
          | (refine ⟨_, _, m1.pu rfl rfl, ?_⟩; conv => whnf)))
        all_goals try (refine Or.inl ?_; conv => whnf)
      all_goals try exact (no_cmp2 h3 ‹_›).elim
      all_goals refine ⟨[], ?_⟩
      repeat (any_goals (first | exact True.intro | exact rfl | with_reducible_and_instances rfl | exact (by kernel_rfl) | refine And.intro ?_ ?_))
      all_goals conv => whnf
    by_cases h4 : c.n = 0
    · rw [right_zero h0 hok h3 h4]
      iterate 6
        repeat (any_goals (first
          | exact True.intro
          | (refine ⟨_, drop_id, ?_⟩; conv => whnf)
          | (refine ⟨_, _, at_n, ?_⟩; conv => whnf)
          | (refine ⟨_, _, at_hi, ?_⟩; conv => whnf)
          | (refine ⟨_, _, at_lo, ?_⟩; conv => whnf)
          | (refine ⟨_, _, at_mn, ?_⟩; conv => whnf)
          | (refine ⟨_, _, at_mx, ?_⟩; conv => whnf)
          | (refine ⟨_, _, at_ce, ?_⟩; conv => whnf)
          | (refine ⟨_, _, at_po, ?_⟩; conv => whnf)
          | (refine ⟨_, whole_z sC, clenz sC, ?_⟩; conv => whnf)
          | (refine ⟨_, setzC, ?_⟩; conv => whnf)
          | (refine And.intro (clenz sC) ?_; conv => whnf)
          | (refine And.intro fitzC ?_; conv => whnf)
          | (refine ⟨_, whole_cell sC hl, clen sC hl, ?_⟩; conv => whnf)
          | (refine And.intro (clen sC hl) ?_; conv => whnf)
          | (refine And.intro (fitC hl) ?_; conv => whnf)
          | (refine ⟨_, setC hl, ?_⟩; conv => whnf)
          | (refine ⟨_, whole_z sF, clenz sF, ?_⟩; conv => whnf)
          | (refine ⟨_, setzF, ?_⟩; conv => whnf)
          | (refine And.intro (clenz sF) ?_; conv => whnf)
          | (refine And.intro fitzF ?_; conv => whnf)
          | (refine ⟨_, whole_cell sF hl, clen sF hl, ?_⟩; conv => whnf)
          | (refine And.intro (clen sF hl) ?_; conv => whnf)
          | (refine And.intro (fitF hl) ?_; conv => whnf)
          | (refine ⟨_, setF hl, ?_⟩; conv => whnf)
          | (refine And.intro (fit1 hl (by decide)) ?_; conv => whnf)
          | (refine And.intro (fit1 rfl (by decide)) ?_; conv => whnf)
          | (refine ⟨_, sum_cell s25, rfl, ?_⟩; conv => whnf)
          | (refine ⟨_, set_n _, ?_⟩; conv => whnf)
          | (refine ⟨_, set_mn _, ?_⟩; conv => whnf)
          | (refine ⟨_, set_mx _, ?_⟩; conv => whnf)
          | (refine ⟨_, set_ce _, ?_⟩; conv => whnf)
          | (refine ⟨_, set_po _, ?_⟩; conv => whnf)
          | (refine ⟨_, set_s _, ?_⟩; conv => whnf)
          | (refine ⟨_, set_hi _, ?_⟩; conv => whnf)
          | (refine ⟨_, set_lo _, ?_⟩; conv => whnf)
          | (refine And.intro (fun _ => ?_) tf; conv => whnf)
          | (refine And.intro ft (fun _ => ?_); conv => whnf)
          | (refine And.intro (by kernel_rfl) ?_; conv => whnf)
          | (refine And.intro (by decide) ?_; conv => whnf)
          | (refine And.intro (fun _ => ?_) (fun h => absurd h (by decide)); conv => whnf)
          | (refine And.intro (fun h => absurd h (by decide)) (fun _ => ?_); conv => whnf)
          | (refine And.intro (fun _ => ?_) (fun _ => ?_) <;> conv => whnf)
          | (refine ⟨_, _, frz_a t1 rfl rfl, ?_⟩; conv => whnf)
          | (refine ⟨_, _, o1.pu rfl rfl, ?_⟩; conv => whnf)
          | (refine ⟨_, _, m1.pu rfl rfl, ?_⟩; conv => whnf)))
        all_goals try (exfalso; simp only [decide_eq_true_eq, decide_eq_false_iff_not, Bool.not_eq_true', Bool.not_eq_false', Bool.not_eq_true, Bool.not_eq_false, beq_iff_eq, bne_iff_ne, beq_eq_false_iff_ne, bne_eq_false_iff_eq, ne_eq, Decidable.not_not] at *; first | omega | contradiction | (simp_all; done) | (simp_all; omega))
        all_goals try (refine Or.inl ?_; conv => whnf)
      all_goals try exact (no_cmp h3 ‹_›).elim
      · rw [zz1 (c := c) (and_t ‹(hiZ c.s == 0) = true› ‹(loZ c.s == 0) = true›) ‹_›]
        all_goals refine ⟨[], ?_⟩
        repeat (any_goals (first | exact True.intro | exact rfl | with_reducible_and_instances rfl | exact (by kernel_rfl) | refine And.intro ?_ ?_))
        all_goals conv => whnf
      · rw [zz2 ‹_›]
        all_goals refine ⟨[], ?_⟩
        repeat (any_goals (first | exact True.intro | exact rfl | with_reducible_and_instances rfl | exact (by kernel_rfl) | refine And.intro ?_ ?_))
        all_goals conv => whnf
      · rw [zz3 (c := c) (and_f2 ‹(loZ c.s == 0) = false›)]
        all_goals refine ⟨[], ?_⟩
        repeat (any_goals (first | exact True.intro | exact rfl | with_reducible_and_instances rfl | exact (by kernel_rfl) | refine And.intro ?_ ?_))
        all_goals conv => whnf
      · rw [zz3 (c := c) (and_f1 ‹(hiZ c.s == 0) = false›)]
        all_goals refine ⟨[], ?_⟩
        repeat (any_goals (first | exact True.intro | exact rfl | with_reducible_and_instances rfl | exact (by kernel_rfl) | refine And.intro ?_ ?_))
        all_goals conv => whnf
    · have hn : 0 < c.n := by omega
      have hin : inB c = true := inB_yes fun b hb hne => (ho b hb).2 hn (by have := (ho b hb).1; omega)
      rw [right_some h0 hok h3 h4, hin, Bool.and_true]
      have p1 := (ho _ k1).1
      have p2 := (ho _ k2).1
      iterate 6
        repeat (any_goals (first
          | exact True.intro
          | (refine ⟨bkt c.mn, rfl, Nat.lt_of_lt_of_eq k1 l26.symm, ?_⟩; conv => whnf)
          | (refine ⟨bkt c.mx, rfl, Nat.lt_of_lt_of_eq k2 l26.symm, ?_⟩; conv => whnf)
          | (refine ⟨_, _, at_h hl k1, ?_⟩; conv => whnf)
          | (refine ⟨_, _, at_h hl k2, ?_⟩; conv => whnf)
          | (refine ⟨_, drop_id, ?_⟩; conv => whnf)
          | (refine ⟨_, _, at_n, ?_⟩; conv => whnf)
          | (refine ⟨_, _, at_hi, ?_⟩; conv => whnf)
          | (refine ⟨_, _, at_lo, ?_⟩; conv => whnf)
          | (refine ⟨_, _, at_mn, ?_⟩; conv => whnf)
          | (refine ⟨_, _, at_mx, ?_⟩; conv => whnf)
          | (refine ⟨_, _, at_ce, ?_⟩; conv => whnf)
          | (refine ⟨_, _, at_po, ?_⟩; conv => whnf)
          | (refine ⟨_, whole_z sC, clenz sC, ?_⟩; conv => whnf)
          | (refine ⟨_, setzC, ?_⟩; conv => whnf)
          | (refine And.intro (clenz sC) ?_; conv => whnf)
          | (refine And.intro fitzC ?_; conv => whnf)
          | (refine ⟨_, whole_cell sC hl, clen sC hl, ?_⟩; conv => whnf)
          | (refine And.intro (clen sC hl) ?_; conv => whnf)
          | (refine And.intro (fitC hl) ?_; conv => whnf)
          | (refine ⟨_, setC hl, ?_⟩; conv => whnf)
          | (refine ⟨_, whole_z sF, clenz sF, ?_⟩; conv => whnf)
          | (refine ⟨_, setzF, ?_⟩; conv => whnf)
          | (refine And.intro (clenz sF) ?_; conv => whnf)
          | (refine And.intro fitzF ?_; conv => whnf)
          | (refine ⟨_, whole_cell sF hl, clen sF hl, ?_⟩; conv => whnf)
          | (refine And.intro (clen sF hl) ?_; conv => whnf)
          | (refine And.intro (fitF hl) ?_; conv => whnf)
          | (refine ⟨_, setF hl, ?_⟩; conv => whnf)
          | (refine And.intro (fit1 hl (by decide)) ?_; conv => whnf)
          | (refine And.intro (fit1 rfl (by decide)) ?_; conv => whnf)
          | (refine ⟨_, sum_cell s25, rfl, ?_⟩; conv => whnf)
          | (refine ⟨_, set_n _, ?_⟩; conv => whnf)
          | (refine ⟨_, set_mn _, ?_⟩; conv => whnf)
          | (refine ⟨_, set_mx _, ?_⟩; conv => whnf)
          | (refine ⟨_, set_ce _, ?_⟩; conv => whnf)
          | (refine ⟨_, set_po _, ?_⟩; conv => whnf)
          | (refine ⟨_, set_s _, ?_⟩; conv => whnf)
          | (refine ⟨_, set_hi _, ?_⟩; conv => whnf)
          | (refine ⟨_, set_lo _, ?_⟩; conv => whnf)
          | (refine And.intro (fun _ => ?_) tf; conv => whnf)
          | (refine And.intro ft (fun _ => ?_); conv => whnf)
          | (refine And.intro (by kernel_rfl) ?_; conv => whnf)
          | (refine And.intro (by decide) ?_; conv => whnf)
          | (refine And.intro (fun _ => ?_) (fun h => absurd h (by decide)); conv => whnf)
          | (refine And.intro (fun h => absurd h (by decide)) (fun _ => ?_); conv => whnf)
          | (refine And.intro (fun _ => ?_) (fun _ => ?_) <;> conv => whnf)
          | (refine ⟨_, _, frz_a t1 rfl rfl, ?_⟩; conv => whnf)
          | (refine ⟨_, _, o1.pu rfl rfl, ?_⟩; conv => whnf)
          | (refine ⟨_, _, m1.pu rfl rfl, ?_⟩; conv => whnf)
          | (refine ⟨_, _, b1.pu rfl rfl, ?_⟩; conv => whnf)
          | (refine ⟨_, _, b2.pu rfl rfl, ?_⟩; conv => whnf)))
        all_goals try (exfalso; simp only [decide_eq_true_eq, decide_eq_false_iff_not, Bool.not_eq_true', Bool.not_eq_false', Bool.not_eq_true, Bool.not_eq_false, beq_iff_eq, bne_iff_ne, beq_eq_false_iff_ne, bne_eq_false_iff_eq, ne_eq, Decidable.not_not] at *; first | omega | contradiction | (simp_all; done) | (simp_all; omega))
        all_goals try (refine Or.inl ?_; conv => whnf)
      all_goals try exact (no_cmp h3 ‹_›).elim
      · have p3 := of_decide_eq_true ‹decide (hAt c.h (bkt c.mn) > 0) = true›
        have e : decide (hAt c.h (bkt c.mn) ≠ 0 ∧ hAt c.h (bkt c.mx) ≠ 0) = decide (hAt c.h (bkt c.mx) > 0) := by
          rw [Bool.eq_iff_iff, decide_eq_true_eq, decide_eq_true_eq]; omega
        rw [e]
        all_goals refine ⟨[], ?_⟩
        repeat (any_goals (first | exact True.intro | exact rfl | with_reducible_and_instances rfl | exact (by kernel_rfl) | refine And.intro ?_ ?_))
        all_goals conv => whnf
      · have p3 := of_decide_eq_false ‹decide (hAt c.h (bkt c.mn) > 0) = false›
        rw [decide_eq_false (p := hAt c.h (bkt c.mn) ≠ 0 ∧ hAt c.h (bkt c.mx) ≠ 0) (by omega)]
        all_goals refine ⟨[], ?_⟩
        repeat (any_goals (first | exact True.intro | exact rfl | with_reducible_and_instances rfl | exact (by kernel_rfl) | refine And.intro ?_ ?_))
        all_goals conv => whnf
end Go.Proofs.Ytbjmdnemeidpjaa
