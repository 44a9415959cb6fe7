/- Parts LaD, LaE, LaF, LaG, Use, CodePlain, CodeA, Num, CodeB of the proof, put together. -/
import Derived.Test.YtpnbpcdmiiakcaaDoorM5
import Derived.Test.YtpnbpcdmiiakcaaDoorProg
import Derived.Test.YtpnbpcdmiiakcaaDoorShelf
import Derived.Laws.BitsAllLaws
import Derived.WalkKit
/- label: which one comes first. -/
namespace Go.Proofs.YtpnbpcdmiiakcaaDoor
set_option linter.unusedSimpArgs false
set_option linter.unusedVariables false
open Go.RowKit
set_option maxRecDepth 100000
theorem bnl {a : Bool} (h : a = true) (q : a = false) : False := by rw [h] at q; exact Bool.noConfusion q
abbrev Ser := Bt × List Lab
abbrev serD (s : Ser) : D := .agg [tD s.1, .sl 2 (s.2.map labR)]
def ordB (a b : Bt) : Int := if a < b then -1 else if b < a then 1 else 0
def orI (a b : Int) : Int := if a ≠ 0 then a else b
def labCmp (a b : Lab) : Int := orI (ordB a.1 b.1) (ordB a.2 b.2)
def labsCmp : List Lab → List Lab → Int
  | [], [] => 0
  | [], _ :: _ => -1
  | _ :: _, [] => 1
  | a :: r, b :: r' => orI (labCmp a b) (labsCmp r r')
def serCmp (a b : Ser) : Int := orI (ordB a.1 b.1) (labsCmp a.2 b.2)
theorem isNaN_sat (a : Bt) : Sat Tryd.prog 61 [.d (tD a)] [] (bA false) [] := by
  refine sat_of_vc (T := tiOf Tryd.prog) (E := E0) Tryd.func61 rfl rfl hE0 hm0 rfl ?_
  conv => whnf
  iterate 3
    repeat' (first | exact True.intro | ((first | refine And.intro (fun _ => ?_) tf | refine And.intro ft (fun _ => ?_) | refine And.intro (by kernel_rfl) ?_ | refine And.intro (by decide) ?_ | refine And.intro (fun _ => ?_) (fun h => absurd h (by decide)) | refine And.intro (fun h => absurd h (by decide)) (fun _ => ?_) | refine ⟨_, _, neL', ?_⟩ | fail); conv => whnf) | (refine And.intro (fun _ => ?_) (fun _ => ?_) <;> conv => whnf) | fail)
    all_goals try (refine Or.inl ?_; conv => whnf)
  all_goals refine ⟨[], ?_⟩
  repeat (any_goals (first | exact True.intro | exact rfl | with_reducible_and_instances rfl | exact (by kernel_rfl) | refine And.intro ?_ ?_))
  all_goals conv => whnf
  rw [decide_eq_true rfl]; rfl
theorem cmpS_sat (a b : Bt) : Sat Tryd.prog 43 [.d (tD a), .d (tD b)] [] (iA (ordB a b)) [] := by
  have n1 := isNaN_sat a
  have n2 := isNaN_sat b
  unfold ordB
  by_cases h1 : a < b
  · rw [if_pos h1]
    refine sat_of_vc (T := tiOf Tryd.prog) (E := E0) Tryd.func43 rfl rfl hE0 hm0 rfl ?_
    conv => whnf
    iterate 6
      repeat' (first | exact True.intro | ((first | refine And.intro (fun _ => ?_) tf | refine And.intro ft (fun _ => ?_) | refine And.intro (by kernel_rfl) ?_ | refine And.intro (by decide) ?_ | refine And.intro (fun _ => ?_) (fun h => absurd h (by decide)) | refine And.intro (fun h => absurd h (by decide)) (fun _ => ?_) | refine ⟨_, _, n1.pu rfl rfl, ?_⟩ | refine ⟨_, _, n2.pu rfl rfl, ?_⟩ | refine ⟨_, _, ltL', ?_⟩ | refine ⟨_, _, gtL', ?_⟩ | fail); conv => whnf) | (refine And.intro (fun _ => ?_) (fun _ => ?_) <;> conv => whnf) | fail)
      all_goals try (refine Or.inl ?_; conv => whnf)
    all_goals try (exfalso; simp only [decide_eq_true_eq, decide_eq_false_iff_not, Bool.not_eq_true', Bool.not_eq_false', Bool.not_eq_true, Bool.not_eq_false, beq_iff_eq, bne_iff_ne, beq_eq_false_iff_ne, bne_eq_false_iff_eq, ne_eq, Decidable.not_not] at *; first | omega | contradiction | (simp_all; done) | (simp_all; omega))
    all_goals try exact absurd h1 (of_decide_eq_false ‹decide (a < b) = false›)
    all_goals refine ⟨[], ?_⟩
    repeat (any_goals (first | exact True.intro | exact rfl | with_reducible_and_instances rfl | exact (by kernel_rfl) | refine And.intro ?_ ?_))
    all_goals conv => whnf
  rw [if_neg h1]
  by_cases h2 : b < a
  · rw [if_pos h2]
    refine sat_of_vc (T := tiOf Tryd.prog) (E := E0) Tryd.func43 rfl rfl hE0 hm0 rfl ?_
    conv => whnf
    iterate 6
      repeat' (first | exact True.intro | ((first | refine And.intro (fun _ => ?_) tf | refine And.intro ft (fun _ => ?_) | refine And.intro (by kernel_rfl) ?_ | refine And.intro (by decide) ?_ | refine And.intro (fun _ => ?_) (fun h => absurd h (by decide)) | refine And.intro (fun h => absurd h (by decide)) (fun _ => ?_) | refine ⟨_, _, n1.pu rfl rfl, ?_⟩ | refine ⟨_, _, n2.pu rfl rfl, ?_⟩ | refine ⟨_, _, ltL', ?_⟩ | refine ⟨_, _, gtL', ?_⟩ | fail); conv => whnf) | (refine And.intro (fun _ => ?_) (fun _ => ?_) <;> conv => whnf) | fail)
      all_goals try (refine Or.inl ?_; conv => whnf)
    all_goals try (exfalso; simp only [decide_eq_true_eq, decide_eq_false_iff_not, Bool.not_eq_true', Bool.not_eq_false', Bool.not_eq_true, Bool.not_eq_false, beq_iff_eq, bne_iff_ne, beq_eq_false_iff_ne, bne_eq_false_iff_eq, ne_eq, Decidable.not_not] at *; first | omega | contradiction | (simp_all; done) | (simp_all; omega))
    all_goals try exact absurd (of_decide_eq_true ‹decide (a < b) = true›) h1
    all_goals try exact absurd h2 (of_decide_eq_false ‹decide (b < a) = false›)
    all_goals refine ⟨[], ?_⟩
    repeat (any_goals (first | exact True.intro | exact rfl | with_reducible_and_instances rfl | exact (by kernel_rfl) | refine And.intro ?_ ?_))
    all_goals conv => whnf
  rw [if_neg h2]
  refine sat_of_vc (T := tiOf Tryd.prog) (E := E0) Tryd.func43 rfl rfl hE0 hm0 rfl ?_
  conv => whnf
  iterate 6
    repeat' (first | exact True.intro | ((first | refine And.intro (fun _ => ?_) tf | refine And.intro ft (fun _ => ?_) | refine And.intro (by kernel_rfl) ?_ | refine And.intro (by decide) ?_ | refine And.intro (fun _ => ?_) (fun h => absurd h (by decide)) | refine And.intro (fun h => absurd h (by decide)) (fun _ => ?_) | refine ⟨_, _, n1.pu rfl rfl, ?_⟩ | refine ⟨_, _, n2.pu rfl rfl, ?_⟩ | refine ⟨_, _, ltL', ?_⟩ | refine ⟨_, _, gtL', ?_⟩ | fail); conv => whnf) | (refine And.intro (fun _ => ?_) (fun _ => ?_) <;> conv => whnf) | fail)
    all_goals try (refine Or.inl ?_; conv => whnf)
  all_goals try (exfalso; simp only [decide_eq_true_eq, decide_eq_false_iff_not, Bool.not_eq_true', Bool.not_eq_false', Bool.not_eq_true, Bool.not_eq_false, beq_iff_eq, bne_iff_ne, beq_eq_false_iff_ne, bne_eq_false_iff_eq, ne_eq, Decidable.not_not] at *; first | omega | contradiction | (simp_all; done) | (simp_all; omega))
  all_goals try exact absurd (of_decide_eq_true ‹decide (a < b) = true›) h1
  all_goals try exact absurd (of_decide_eq_true ‹decide (b < a) = true›) h2
  all_goals refine ⟨[], ?_⟩
  repeat (any_goals (first | exact True.intro | exact rfl | with_reducible_and_instances rfl | exact (by kernel_rfl) | refine And.intro ?_ ?_))
  all_goals conv => whnf
theorem rOrder_sat (a b : Bt) : Sat Tryd.prog 53 [.d (tD a), .d (tD b)] [] (iA (ordB a b)) [] := by
  unfold ordB
  by_cases h1 : a < b
  · rw [if_pos h1]
    refine sat_of_vc (T := tiOf Tryd.prog) (E := E0) Tryd.func53 rfl rfl hE0 hm0 rfl ?_
    conv => whnf
    iterate 6
      repeat' (first | exact True.intro | ((first | refine And.intro (fun _ => ?_) tf | refine And.intro ft (fun _ => ?_) | refine And.intro (by kernel_rfl) ?_ | refine And.intro (by decide) ?_ | refine And.intro (fun _ => ?_) (fun h => absurd h (by decide)) | refine And.intro (fun h => absurd h (by decide)) (fun _ => ?_) | refine ⟨_, _, ltL', ?_⟩ | refine ⟨_, _, gtL', ?_⟩ | fail); conv => whnf) | (refine And.intro (fun _ => ?_) (fun _ => ?_) <;> conv => whnf) | fail)
      all_goals try (refine Or.inl ?_; conv => whnf)
    all_goals try exact absurd h1 (of_decide_eq_false ‹decide (a < b) = false›)
    all_goals refine ⟨[], ?_⟩
    repeat (any_goals (first | exact True.intro | exact rfl | with_reducible_and_instances rfl | exact (by kernel_rfl) | refine And.intro ?_ ?_))
    all_goals conv => whnf
  rw [if_neg h1]
  by_cases h2 : b < a
  · rw [if_pos h2]
    refine sat_of_vc (T := tiOf Tryd.prog) (E := E0) Tryd.func53 rfl rfl hE0 hm0 rfl ?_
    conv => whnf
    iterate 6
      repeat' (first | exact True.intro | ((first | refine And.intro (fun _ => ?_) tf | refine And.intro ft (fun _ => ?_) | refine And.intro (by kernel_rfl) ?_ | refine And.intro (by decide) ?_ | refine And.intro (fun _ => ?_) (fun h => absurd h (by decide)) | refine And.intro (fun h => absurd h (by decide)) (fun _ => ?_) | refine ⟨_, _, ltL', ?_⟩ | refine ⟨_, _, gtL', ?_⟩ | fail); conv => whnf) | (refine And.intro (fun _ => ?_) (fun _ => ?_) <;> conv => whnf) | fail)
      all_goals try (refine Or.inl ?_; conv => whnf)
    all_goals try exact absurd (of_decide_eq_true ‹decide (a < b) = true›) h1
    all_goals try exact absurd h2 (of_decide_eq_false ‹decide (b < a) = false›)
    all_goals refine ⟨[], ?_⟩
    repeat (any_goals (first | exact True.intro | exact rfl | with_reducible_and_instances rfl | exact (by kernel_rfl) | refine And.intro ?_ ?_))
    all_goals conv => whnf
  rw [if_neg h2]
  refine sat_of_vc (T := tiOf Tryd.prog) (E := E0) Tryd.func53 rfl rfl hE0 hm0 rfl ?_
  conv => whnf
  iterate 6
    repeat' (first | exact True.intro | ((first | refine And.intro (fun _ => ?_) tf | refine And.intro ft (fun _ => ?_) | refine And.intro (by kernel_rfl) ?_ | refine And.intro (by decide) ?_ | refine And.intro (fun _ => ?_) (fun h => absurd h (by decide)) | refine And.intro (fun h => absurd h (by decide)) (fun _ => ?_) | refine ⟨_, _, ltL', ?_⟩ | refine ⟨_, _, gtL', ?_⟩ | fail); conv => whnf) | (refine And.intro (fun _ => ?_) (fun _ => ?_) <;> conv => whnf) | fail)
    all_goals try (refine Or.inl ?_; conv => whnf)
  all_goals try exact absurd (of_decide_eq_true ‹decide (a < b) = true›) h1
  all_goals try exact absurd (of_decide_eq_true ‹decide (b < a) = true›) h2
  all_goals refine ⟨[], ?_⟩
  repeat (any_goals (first | exact True.intro | exact rfl | with_reducible_and_instances rfl | exact (by kernel_rfl) | refine And.intro ?_ ?_))
  all_goals conv => whnf
theorem or_sat (a b : Int) : Sat Tryd.prog 42 [.d (.sl 1 [[iD a], [iD b]])] [] (iA (orI a b)) [] := by
  unfold orI
  refine sat_of_vc (T := tiOf Tryd.prog) (E := E0) Tryd.func42 rfl rfl hE0 hm0 rfl ?_
  conv => whnf
  iterate 2
    repeat' (first | exact True.intro | ((first | refine And.intro (fun _ => ?_) tf | refine And.intro ft (fun _ => ?_) | refine And.intro (by kernel_rfl) ?_ | refine And.intro (by decide) ?_ | refine And.intro (fun _ => ?_) (fun h => absurd h (by decide)) | refine And.intro (fun h => absurd h (by decide)) (fun _ => ?_) | fail); conv => whnf) | (refine And.intro (fun _ => ?_) (fun _ => ?_) <;> conv => whnf) | fail)
    all_goals try (refine Or.inl ?_; conv => whnf)
  refine ⟨Nat, fun i => i ≤ 2 ∧ (0 < i → a = 0) ∧ (1 < i → b = 0), fun i => ([(8, iA i), (7, iA 2), (6, .d (.sl 1 [[iD a], [iD b]])), (3, iA 0)], []), fun i => 2 - i, ⟨0, ⟨by decide, fun h => absurd h (by decide), fun h => absurd h (by decide)⟩, ?_⟩, ?_⟩
  · all_goals refine ⟨[], ?_⟩
    repeat (any_goals (first | exact True.intro | exact rfl | with_reducible_and_instances rfl | exact (by kernel_rfl) | refine And.intro ?_ ?_))
    all_goals conv => whnf
  rintro i ⟨hi, ha, hb⟩
  have hi3 : i = 0 ∨ i = 1 ∨ i = 2 := by have : i ≤ 2 := hi; omega
  rcases hi3 with rfl | rfl | rfl
  · by_cases h : a = 0
    · conv => whnf
      iterate 3
        repeat' (first | exact True.intro | ((first | refine ⟨0, _, rfl, rfl, ?_⟩ | refine And.intro (fun _ => ?_) tf | refine And.intro ft (fun _ => ?_) | refine And.intro (by kernel_rfl) ?_ | refine And.intro (by decide) ?_ | refine And.intro (fun _ => ?_) (fun h => absurd h (by decide)) | refine And.intro (fun h => absurd h (by decide)) (fun _ => ?_) | fail); conv => whnf) | (refine And.intro (fun _ => ?_) (fun _ => ?_) <;> conv => whnf) | fail)
        all_goals try (exfalso; simp only [decide_eq_true_eq, decide_eq_false_iff_not, Bool.not_eq_true', Bool.not_eq_false', Bool.not_eq_true, Bool.not_eq_false, beq_iff_eq, bne_iff_ne, beq_eq_false_iff_ne, bne_eq_false_iff_eq, ne_eq, Decidable.not_not] at *; first | omega | contradiction | (simp_all; done) | (simp_all; omega))
        all_goals try (refine Or.inl ?_; conv => whnf)
      refine ⟨1, ⟨by decide, fun _ => h, fun h => absurd h (by decide)⟩, by decide, ?_⟩
      all_goals refine ⟨[], ?_⟩
      repeat (any_goals (first | exact True.intro | exact rfl | with_reducible_and_instances rfl | exact (by kernel_rfl) | refine And.intro ?_ ?_))
      all_goals conv => whnf
    · rw [if_pos h]
      conv => whnf
      iterate 3
        repeat' (first | exact True.intro | ((first | refine ⟨0, _, rfl, rfl, ?_⟩ | refine And.intro (fun _ => ?_) tf | refine And.intro ft (fun _ => ?_) | refine And.intro (by kernel_rfl) ?_ | refine And.intro (by decide) ?_ | refine And.intro (fun _ => ?_) (fun h => absurd h (by decide)) | refine And.intro (fun h => absurd h (by decide)) (fun _ => ?_) | fail); conv => whnf) | (refine And.intro (fun _ => ?_) (fun _ => ?_) <;> conv => whnf) | fail)
        all_goals try (exfalso; simp only [decide_eq_true_eq, decide_eq_false_iff_not, Bool.not_eq_true', Bool.not_eq_false', Bool.not_eq_true, Bool.not_eq_false, beq_iff_eq, bne_iff_ne, beq_eq_false_iff_ne, bne_eq_false_iff_eq, ne_eq, Decidable.not_not] at *; first | omega | contradiction | (simp_all; done) | (simp_all; omega))
        all_goals try (refine Or.inl ?_; conv => whnf)
      all_goals refine ⟨[], ?_⟩
      repeat (any_goals (first | exact True.intro | exact rfl | with_reducible_and_instances rfl | exact (by kernel_rfl) | refine And.intro ?_ ?_))
      all_goals conv => whnf
  · have ha := ha (by decide)
    rw [if_neg (by simpa using ha)]
    by_cases h : b = 0
    · conv => whnf
      iterate 3
        repeat' (first | exact True.intro | ((first | refine ⟨1, _, rfl, rfl, ?_⟩ | refine And.intro (fun _ => ?_) tf | refine And.intro ft (fun _ => ?_) | refine And.intro (by kernel_rfl) ?_ | refine And.intro (by decide) ?_ | refine And.intro (fun _ => ?_) (fun h => absurd h (by decide)) | refine And.intro (fun h => absurd h (by decide)) (fun _ => ?_) | fail); conv => whnf) | (refine And.intro (fun _ => ?_) (fun _ => ?_) <;> conv => whnf) | fail)
        all_goals try (exfalso; simp only [decide_eq_true_eq, decide_eq_false_iff_not, Bool.not_eq_true', Bool.not_eq_false', Bool.not_eq_true, Bool.not_eq_false, beq_iff_eq, bne_iff_ne, beq_eq_false_iff_ne, bne_eq_false_iff_eq, ne_eq, Decidable.not_not] at *; first | omega | contradiction | (simp_all; done) | (simp_all; omega))
        all_goals try (refine Or.inl ?_; conv => whnf)
      refine ⟨2, ⟨by decide, fun _ => ha, fun _ => h⟩, by decide, ?_⟩
      all_goals refine ⟨[], ?_⟩
      repeat (any_goals (first | exact True.intro | exact rfl | with_reducible_and_instances rfl | exact (by kernel_rfl) | refine And.intro ?_ ?_))
      all_goals conv => whnf
    · conv => whnf
      iterate 3
        repeat' (first | exact True.intro | ((first | refine ⟨1, _, rfl, rfl, ?_⟩ | refine And.intro (fun _ => ?_) tf | refine And.intro ft (fun _ => ?_) | refine And.intro (by kernel_rfl) ?_ | refine And.intro (by decide) ?_ | refine And.intro (fun _ => ?_) (fun h => absurd h (by decide)) | refine And.intro (fun h => absurd h (by decide)) (fun _ => ?_) | fail); conv => whnf) | (refine And.intro (fun _ => ?_) (fun _ => ?_) <;> conv => whnf) | fail)
        all_goals try (exfalso; simp only [decide_eq_true_eq, decide_eq_false_iff_not, Bool.not_eq_true', Bool.not_eq_false', Bool.not_eq_true, Bool.not_eq_false, beq_iff_eq, bne_iff_ne, beq_eq_false_iff_ne, bne_eq_false_iff_eq, ne_eq, Decidable.not_not] at *; first | omega | contradiction | (simp_all; done) | (simp_all; omega))
        all_goals try (refine Or.inl ?_; conv => whnf)
      all_goals refine ⟨[], ?_⟩
      repeat (any_goals (first | exact True.intro | exact rfl | with_reducible_and_instances rfl | exact (by kernel_rfl) | refine And.intro ?_ ?_))
      all_goals conv => whnf
  · rw [if_neg (by simpa using ha (by decide)), hb (by decide)]
    conv => whnf
    iterate 3
      repeat' (first | exact True.intro | ((first | refine And.intro (fun _ => ?_) tf | refine And.intro ft (fun _ => ?_) | refine And.intro (by kernel_rfl) ?_ | refine And.intro (by decide) ?_ | refine And.intro (fun _ => ?_) (fun h => absurd h (by decide)) | refine And.intro (fun h => absurd h (by decide)) (fun _ => ?_) | fail); conv => whnf) | (refine And.intro (fun _ => ?_) (fun _ => ?_) <;> conv => whnf) | fail)
      all_goals try (exfalso; simp only [decide_eq_true_eq, decide_eq_false_iff_not, Bool.not_eq_true', Bool.not_eq_false', Bool.not_eq_true, Bool.not_eq_false, beq_iff_eq, bne_iff_ne, beq_eq_false_iff_ne, bne_eq_false_iff_eq, ne_eq, Decidable.not_not] at *; first | omega | contradiction | (simp_all; done) | (simp_all; omega))
      all_goals try (refine Or.inl ?_; conv => whnf)
    all_goals refine ⟨[], ?_⟩
    repeat (any_goals (first | exact True.intro | exact rfl | with_reducible_and_instances rfl | exact (by kernel_rfl) | refine And.intro ?_ ?_))
    all_goals conv => whnf
theorem cmpNames_sat (a b : Lab) : Sat Tryd.prog 30 [.d (labD a), .d (labD b)] [] (iA (ordB a.1 b.1)) [] := by
  have c1 := cmpS_sat a.1 b.1
  refine sat_of_vc (T := tiOf Tryd.prog) (E := E0) Tryd.func30 rfl rfl hE0 hm0 rfl ?_
  conv => whnf
  iterate 3
    repeat' (first | exact True.intro | ((first | refine And.intro (fun _ => ?_) tf | refine And.intro ft (fun _ => ?_) | refine And.intro (by kernel_rfl) ?_ | refine And.intro (by decide) ?_ | refine And.intro (fun _ => ?_) (fun h => absurd h (by decide)) | refine And.intro (fun h => absurd h (by decide)) (fun _ => ?_) | refine ⟨_, _, c1.pu rfl rfl, ?_⟩ | fail); conv => whnf) | (refine And.intro (fun _ => ?_) (fun _ => ?_) <;> conv => whnf) | fail)
    all_goals try (refine Or.inl ?_; conv => whnf)
  all_goals refine ⟨[], ?_⟩
  repeat (any_goals (first | exact True.intro | exact rfl | with_reducible_and_instances rfl | exact (by kernel_rfl) | refine And.intro ?_ ?_))
  all_goals conv => whnf
theorem labCmp_sat (a b : Lab) : Sat Tryd.prog 45 [.d (labD a), .d (labD b)] [] (iA (labCmp a b)) [] := by
  have c1 := cmpNames_sat a b
  have c2 := cmpS_sat a.2 b.2
  have o1 := or_sat (ordB a.1 b.1) (ordB a.2 b.2)
  refine sat_of_vc (T := tiOf Tryd.prog) (E := E0) Tryd.func45 rfl rfl hE0 hm0 rfl ?_
  conv => whnf
  iterate 3
    repeat' (first | exact True.intro | ((first | refine And.intro (fun _ => ?_) tf | refine And.intro ft (fun _ => ?_) | refine And.intro (by kernel_rfl) ?_ | refine And.intro (by decide) ?_ | refine And.intro (fun _ => ?_) (fun h => absurd h (by decide)) | refine And.intro (fun h => absurd h (by decide)) (fun _ => ?_) | refine ⟨_, _, c1.pu rfl rfl, ?_⟩ | refine ⟨_, _, c2.pu rfl rfl, ?_⟩ | refine ⟨_, _, lendO o1 rfl rfl, ?_⟩ | fail); conv => whnf) | (refine And.intro (fun _ => ?_) (fun _ => ?_) <;> conv => whnf) | fail)
    all_goals try (refine Or.inl ?_; conv => whnf)
  all_goals refine ⟨[], ?_⟩
  repeat (any_goals (first | exact True.intro | exact rfl | with_reducible_and_instances rfl | exact (by kernel_rfl) | refine And.intro ?_ ?_))
  all_goals conv => whnf
theorem drop_cons {α : Type} {l : List α} {i : Nat} {x : α} (h : l[i]? = some x) : l.drop i = x :: l.drop (i + 1) := by
  obtain ⟨h1, rfl⟩ := List.getElem?_eq_some_iff.1 h
  exact List.drop_eq_getElem_cons h1
set_option maxHeartbeats 2000000 in
theorem labsCmp_sat (l k : List Lab) (hn : l.length ≤ 1000000) : Sat Tryd.prog 44 [.d (.sl 2 (l.map labR)), .d (.sl 2 (k.map labR)), .fn (.func 45) [] []] [] (iA (labsCmp l k)) [] := by
  have hl : (l.map labR).length = l.length := List.length_map _
  have hk : (k.map labR).length = k.length := List.length_map _
  refine sat_of_vc (T := tiOf Tryd.prog) (E := E0) Tryd.func44 rfl rfl hE0 hm0 rfl ?_
  conv => whnf
  iterate 2
    repeat' (first | exact True.intro | ((first | refine And.intro (fun _ => ?_) tf | refine And.intro ft (fun _ => ?_) | refine And.intro (by kernel_rfl) ?_ | refine And.intro (by decide) ?_ | refine And.intro (fun _ => ?_) (fun h => absurd h (by decide)) | refine And.intro (fun h => absurd h (by decide)) (fun _ => ?_) | fail); conv => whnf) | (refine And.intro (fun _ => ?_) (fun _ => ?_) <;> conv => whnf) | fail)
    all_goals try (refine Or.inl ?_; conv => whnf)
  refine ⟨Nat, fun i => i ≤ l.length ∧ i ≤ k.length ∧ labsCmp l k = labsCmp (l.drop i) (k.drop i), fun i => ([(13, iA i), (12, iA (l.map labR).length), (11, .d (.sl 2 (l.map labR))), (2, .fn (.func 45) [] []), (1, .d (.sl 2 (k.map labR))), (0, .d (.sl 2 (l.map labR)))], []), fun i => l.length - i, ⟨0, ⟨Nat.zero_le _, Nat.zero_le _, rfl⟩, ?_⟩, ?_⟩
  · all_goals refine ⟨[], ?_⟩
    repeat (any_goals (first | exact True.intro | exact rfl | with_reducible_and_instances rfl | exact (by kernel_rfl) | refine And.intro ?_ ?_))
    all_goals conv => whnf
  rintro i ⟨hi, hj, hI⟩
  rw [hI]
  conv => whnf
  by_cases hlt : i < l.length
  · have hx : l[i]? = some l[i] := List.getElem?_eq_getElem hlt
    generalize l[i] = x at hx
    have hgx := map_get (f := labR) hx
    rw [drop_cons hx]
    by_cases hkt : i < k.length
    · have hy : k[i]? = some k[i] := List.getElem?_eq_getElem hkt
      generalize k[i] = y at hy
      have hgy := map_get (f := labR) hy
      have c1 := labCmp_sat x y
      rw [drop_cons hy]
      show _
      by_cases hc : labCmp x y = 0
      · iterate 5
          repeat' (first | exact True.intro | ((first | refine ⟨i, _, rfl, hgx, ?_⟩ | refine ⟨i, _, rfl, hgy, ?_⟩ | refine And.intro (fun _ => ?_) tf | refine And.intro ft (fun _ => ?_) | refine And.intro (by kernel_rfl) ?_ | refine And.intro (by decide) ?_ | refine And.intro (fun _ => ?_) (fun h => absurd h (by decide)) | refine And.intro (fun h => absurd h (by decide)) (fun _ => ?_) | refine ⟨_, _, c1.pu rfl rfl, ?_⟩ | fail); conv => whnf) | (refine And.intro (fun _ => ?_) (fun _ => ?_) <;> conv => whnf) | fail)
          all_goals try (exfalso; simp only [decide_eq_true_eq, decide_eq_false_iff_not, Bool.not_eq_true', Bool.not_eq_false', Bool.not_eq_true, Bool.not_eq_false, beq_iff_eq, bne_iff_ne, beq_eq_false_iff_ne, bne_eq_false_iff_eq, ne_eq, Decidable.not_not] at *; first | omega | contradiction | (simp_all; done) | (simp_all; omega))
          all_goals try (refine Or.inl ?_; conv => whnf)
        refine ⟨i + 1, ⟨hlt, hkt, ?_⟩, show l.length - (i + 1) < l.length - i by omega, ?_⟩
        · show orI (labCmp x y) _ = _
          unfold orI
          rw [if_neg (by simpa using hc)]
        all_goals refine ⟨[], ?_⟩
        repeat (any_goals (first | exact True.intro | exact rfl | with_reducible_and_instances rfl | exact (by kernel_rfl) | refine And.intro ?_ ?_))
        all_goals conv => whnf
        exact wk1 (by omega)
      · rw [show labsCmp (x :: l.drop (i + 1)) (y :: k.drop (i + 1)) = labCmp x y from if_pos hc]
        iterate 5
          repeat' (first | exact True.intro | ((first | refine ⟨i, _, rfl, hgx, ?_⟩ | refine ⟨i, _, rfl, hgy, ?_⟩ | refine And.intro (fun _ => ?_) tf | refine And.intro ft (fun _ => ?_) | refine And.intro (by kernel_rfl) ?_ | refine And.intro (by decide) ?_ | refine And.intro (fun _ => ?_) (fun h => absurd h (by decide)) | refine And.intro (fun h => absurd h (by decide)) (fun _ => ?_) | refine ⟨_, _, c1.pu rfl rfl, ?_⟩ | fail); conv => whnf) | (refine And.intro (fun _ => ?_) (fun _ => ?_) <;> conv => whnf) | fail)
          all_goals try (exfalso; simp only [decide_eq_true_eq, decide_eq_false_iff_not, Bool.not_eq_true', Bool.not_eq_false', Bool.not_eq_true, Bool.not_eq_false, beq_iff_eq, bne_iff_ne, beq_eq_false_iff_ne, bne_eq_false_iff_eq, ne_eq, Decidable.not_not] at *; first | omega | contradiction | (simp_all; done) | (simp_all; omega))
          all_goals try (refine Or.inl ?_; conv => whnf)
        all_goals refine ⟨[], ?_⟩
        repeat (any_goals (first | exact True.intro | exact rfl | with_reducible_and_instances rfl | exact (by kernel_rfl) | refine And.intro ?_ ?_))
        all_goals conv => whnf
    · rw [List.drop_of_length_le (by omega : k.length ≤ i)]
      iterate 5
        repeat' (first | exact True.intro | ((first | refine ⟨i, _, rfl, hgx, ?_⟩ | refine And.intro (fun _ => ?_) tf | refine And.intro ft (fun _ => ?_) | refine And.intro (by kernel_rfl) ?_ | refine And.intro (by decide) ?_ | refine And.intro (fun _ => ?_) (fun h => absurd h (by decide)) | refine And.intro (fun h => absurd h (by decide)) (fun _ => ?_) | fail); conv => whnf) | (refine And.intro (fun _ => ?_) (fun _ => ?_) <;> conv => whnf) | fail)
        all_goals try (exfalso; simp only [decide_eq_true_eq, decide_eq_false_iff_not, Bool.not_eq_true', Bool.not_eq_false', Bool.not_eq_true, Bool.not_eq_false, beq_iff_eq, bne_iff_ne, beq_eq_false_iff_ne, bne_eq_false_iff_eq, ne_eq, Decidable.not_not] at *; first | omega | contradiction | (simp_all; done) | (simp_all; omega))
        all_goals try (refine Or.inl ?_; conv => whnf)
      all_goals refine ⟨[], ?_⟩
      repeat (any_goals (first | exact True.intro | exact rfl | with_reducible_and_instances rfl | exact (by kernel_rfl) | refine And.intro ?_ ?_))
      all_goals conv => whnf
  · rw [List.drop_of_length_le (by omega : l.length ≤ i)]
    by_cases hkt : i < k.length
    · rw [drop_cons (List.getElem?_eq_getElem hkt)]
      iterate 5
        repeat' (first | exact True.intro | ((first | refine And.intro (fun _ => ?_) tf | refine And.intro ft (fun _ => ?_) | refine And.intro (by kernel_rfl) ?_ | refine And.intro (by decide) ?_ | refine And.intro (fun _ => ?_) (fun h => absurd h (by decide)) | refine And.intro (fun h => absurd h (by decide)) (fun _ => ?_) | fail); conv => whnf) | (refine And.intro (fun _ => ?_) (fun _ => ?_) <;> conv => whnf) | fail)
        all_goals try (exfalso; simp only [decide_eq_true_eq, decide_eq_false_iff_not, Bool.not_eq_true', Bool.not_eq_false', Bool.not_eq_true, Bool.not_eq_false, beq_iff_eq, bne_iff_ne, beq_eq_false_iff_ne, bne_eq_false_iff_eq, ne_eq, Decidable.not_not] at *; first | omega | contradiction | (simp_all; done) | (simp_all; omega))
        all_goals try (refine Or.inl ?_; conv => whnf)
      all_goals refine ⟨[], ?_⟩
      repeat (any_goals (first | exact True.intro | exact rfl | with_reducible_and_instances rfl | exact (by kernel_rfl) | refine And.intro ?_ ?_))
      all_goals conv => whnf
    · rw [List.drop_of_length_le (by omega : k.length ≤ i)]
      iterate 5
        repeat' (first | exact True.intro | ((first | refine And.intro (fun _ => ?_) tf | refine And.intro ft (fun _ => ?_) | refine And.intro (by kernel_rfl) ?_ | refine And.intro (by decide) ?_ | refine And.intro (fun _ => ?_) (fun h => absurd h (by decide)) | refine And.intro (fun h => absurd h (by decide)) (fun _ => ?_) | fail); conv => whnf) | (refine And.intro (fun _ => ?_) (fun _ => ?_) <;> conv => whnf) | fail)
        all_goals try (exfalso; simp only [decide_eq_true_eq, decide_eq_false_iff_not, Bool.not_eq_true', Bool.not_eq_false', Bool.not_eq_true, Bool.not_eq_false, beq_iff_eq, bne_iff_ne, beq_eq_false_iff_ne, bne_eq_false_iff_eq, ne_eq, Decidable.not_not] at *; first | omega | contradiction | (simp_all; done) | (simp_all; omega))
        all_goals try (refine Or.inl ?_; conv => whnf)
      all_goals refine ⟨[], ?_⟩
      repeat (any_goals (first | exact True.intro | exact rfl | with_reducible_and_instances rfl | exact (by kernel_rfl) | refine And.intro ?_ ?_))
      all_goals conv => whnf
theorem serCmp_sat (a b : Ser) (hn : a.2.length ≤ 1000000) : Sat Tryd.prog 22 [.d (serD a), .d (serD b)] [] (iA (serCmp a b)) [] := by
  have c1 := cmpS_sat a.1 b.1
  have c2 := labsCmp_sat a.2 b.2 hn
  have o1 := or_sat (ordB a.1 b.1) (labsCmp a.2 b.2)
  refine sat_of_vc (T := tiOf Tryd.prog) (E := E0) Tryd.func22 rfl rfl hE0 hm0 rfl ?_
  conv => whnf
  iterate 3
    repeat' (first | exact True.intro | ((first | refine And.intro (fun _ => ?_) tf | refine And.intro ft (fun _ => ?_) | refine And.intro (by kernel_rfl) ?_ | refine And.intro (by decide) ?_ | refine And.intro (fun _ => ?_) (fun h => absurd h (by decide)) | refine And.intro (fun h => absurd h (by decide)) (fun _ => ?_) | refine ⟨_, _, c1.pu rfl rfl, ?_⟩ | refine ⟨_, _, c2.pu rfl rfl, ?_⟩ | refine ⟨_, _, lendO o1 rfl rfl, ?_⟩ | fail); conv => whnf) | (refine And.intro (fun _ => ?_) (fun _ => ?_) <;> conv => whnf) | fail)
    all_goals try (refine Or.inl ?_; conv => whnf)
  all_goals refine ⟨[], ?_⟩
  repeat (any_goals (first | exact True.intro | exact rfl | with_reducible_and_instances rfl | exact (by kernel_rfl) | refine And.intro ?_ ?_))
  all_goals conv => whnf
/-! ### the document's -/
set_option maxHeartbeats 4000000 in
theorem rCmp_sat (a b : Ser) (hn : a.2.length ≤ 1000000) (hn' : b.2.length ≤ 1000000) : Sat Tryd.prog 33 [.d (serD a), .d (serD b)] [] (iA (serCmp a b)) [] := by
  obtain ⟨an, l⟩ := a
  obtain ⟨bn, k⟩ := b
  have hl : (l.map labR).length = l.length := List.length_map _
  have hk : (k.map labR).length = k.length := List.length_map _
  have hn : l.length ≤ 1000000 := hn
  have hn' : k.length ≤ 1000000 := hn'
  have c0 := rOrder_sat an bn
  show Sat _ _ _ _ (iA (orI (ordB an bn) (labsCmp l k))) _
  refine sat_of_vc (T := tiOf Tryd.prog) (E := E0) Tryd.func33 rfl rfl hE0 hm0 rfl ?_
  conv => whnf
  iterate 2
    repeat' (first | exact True.intro | ((first | refine And.intro (fun _ => ?_) tf | refine And.intro ft (fun _ => ?_) | refine And.intro (by kernel_rfl) ?_ | refine And.intro (by decide) ?_ | refine And.intro (fun _ => ?_) (fun h => absurd h (by decide)) | refine And.intro (fun h => absurd h (by decide)) (fun _ => ?_) | refine ⟨_, _, c0.pu rfl rfl, ?_⟩ | fail); conv => whnf) | (refine And.intro (fun _ => ?_) (fun _ => ?_) <;> conv => whnf) | fail)
    all_goals try (refine Or.inl ?_; conv => whnf)
  refine ⟨Int × Nat, fun y => y.2 ≤ l.length ∧ y.2 ≤ k.length ∧ orI (ordB an bn) (labsCmp l k) = orI y.1 (labsCmp (l.drop y.2) (k.drop y.2)), fun y => ([(6, iA y.2), (5, iA y.1), (3, .ptr 1 0), (2, .ptr 0 0)], [.cells [.d (tD an), .d (.sl 2 (l.map labR))], .cells [.d (tD bn), .d (.sl 2 (k.map labR))]]), fun y => l.length - y.2, ⟨(ordB an bn, 0), ⟨Nat.zero_le _, Nat.zero_le _, rfl⟩, ?_⟩, ?_⟩
  · all_goals refine ⟨[], ?_⟩
    repeat (any_goals (first | exact True.intro | exact rfl | with_reducible_and_instances rfl | exact (by kernel_rfl) | refine And.intro ?_ ?_))
    all_goals conv => whnf
  rintro y0 ⟨hi, hj, hI⟩
  rw [hI]
  conv => whnf
  by_cases hz : y0.1 = 0
  case neg =>
    have e0 : (y0.1 == 0) = false := by simpa using hz
    rw [show orI y0.1 (labsCmp (l.drop y0.2) (k.drop y0.2)) = y0.1 from if_pos hz]
    iterate 5
      repeat' (first | exact True.intro | ((first | refine And.intro (fun _ => ?_) tf | refine And.intro ft (fun _ => ?_) | refine And.intro (by kernel_rfl) ?_ | refine And.intro (by decide) ?_ | refine And.intro (fun _ => ?_) (fun h => absurd h (by decide)) | refine And.intro (fun h => absurd h (by decide)) (fun _ => ?_) | fail); conv => whnf) | (refine And.intro (fun _ => ?_) (fun _ => ?_) <;> conv => whnf) | fail)
      all_goals try (refine Or.inl ?_; conv => whnf)
    all_goals try exact (bnl ‹(y0.1 == 0) = true› e0).elim
    all_goals refine ⟨[], ?_⟩
    repeat (any_goals (first | exact True.intro | exact rfl | with_reducible_and_instances rfl | exact (by kernel_rfl) | refine And.intro ?_ ?_))
    all_goals conv => whnf
  have e0 : (y0.1 == 0) = true := by simpa using hz
  rw [show orI y0.1 (labsCmp (l.drop y0.2) (k.drop y0.2)) = labsCmp (l.drop y0.2) (k.drop y0.2) from if_neg (by simpa using hz)]
  by_cases hlt : y0.2 < l.length
  · have hx : l[y0.2]? = some l[y0.2] := List.getElem?_eq_getElem hlt
    generalize l[y0.2] = x at hx
    have hgx := map_get (f := labR) hx
    rw [drop_cons hx]
    have d1 : decide ((y0.2 : Int) < ((l.map labR).length : Nat)) = true := decide_eq_true (by rw [hl]; omega)
    have d2 : decide ((y0.2 : Int) ≥ ((l.map labR).length : Nat)) = false := decide_eq_false (by rw [hl]; omega)
    by_cases hkt : y0.2 < k.length
    · have hy : k[y0.2]? = some k[y0.2] := List.getElem?_eq_getElem hkt
      generalize k[y0.2] = y at hy
      have hgy := map_get (f := labR) hy
      have d3 : decide ((y0.2 : Int) ≥ ((k.map labR).length : Nat)) = false := decide_eq_false (by rw [hk]; omega)
      have c1 := rOrder_sat x.1 y.1
      have c2 := rOrder_sat x.2 y.2
      rw [drop_cons hy] at *
      rw [show labsCmp (x :: l.drop (y0.2 + 1)) (y :: k.drop (y0.2 + 1)) = orI (labCmp x y) (labsCmp (l.drop (y0.2 + 1)) (k.drop (y0.2 + 1))) from rfl] at *
      iterate 7
        repeat' (first | exact True.intro | ((first | refine ⟨y0.2, _, rfl, hgx, ?_⟩ | refine ⟨y0.2, _, rfl, hgy, ?_⟩ | refine And.intro (fun _ => ?_) tf | refine And.intro ft (fun _ => ?_) | refine And.intro (by kernel_rfl) ?_ | refine And.intro (by decide) ?_ | refine And.intro (fun _ => ?_) (fun h => absurd h (by decide)) | refine And.intro (fun h => absurd h (by decide)) (fun _ => ?_) | refine ⟨_, _, c1.pu rfl rfl, ?_⟩ | refine ⟨_, _, c2.pu rfl rfl, ?_⟩ | fail); conv => whnf) | (refine And.intro (fun _ => ?_) (fun _ => ?_) <;> conv => whnf) | fail)
        all_goals try (refine Or.inl ?_; conv => whnf)
      all_goals try exact (bnl e0 ‹(y0.1 == 0) = false›).elim
      all_goals try exact (bnl d1 ‹_›).elim
      all_goals try exact (bnl ‹_› d2).elim
      all_goals try exact (bnl ‹_› d3).elim
      · have hq : ordB x.1 y.1 = 0 := by simpa using ‹(ordB x.1 y.1 == 0) = true›
        refine ⟨(ordB x.2 y.2, y0.2 + 1), ⟨hlt, hkt, ?_⟩, show l.length - (y0.2 + 1) < l.length - y0.2 by omega, ?_⟩
        · rw [show labCmp x y = ordB x.2 y.2 from if_neg (by simpa using hq)]
        all_goals refine ⟨[], ?_⟩
        repeat (any_goals (first | exact True.intro | exact rfl | with_reducible_and_instances rfl | exact (by kernel_rfl) | refine And.intro ?_ ?_))
        all_goals conv => whnf
        exact wk1 (by omega)
      · have hq : ordB x.1 y.1 ≠ 0 := by simpa using ‹(ordB x.1 y.1 == 0) = false›
        refine ⟨(ordB x.1 y.1, y0.2 + 1), ⟨hlt, hkt, ?_⟩, show l.length - (y0.2 + 1) < l.length - y0.2 by omega, ?_⟩
        · rw [show labCmp x y = ordB x.1 y.1 from if_pos hq]
        all_goals refine ⟨[], ?_⟩
        repeat (any_goals (first | exact True.intro | exact rfl | with_reducible_and_instances rfl | exact (by kernel_rfl) | refine And.intro ?_ ?_))
        all_goals conv => whnf
        exact wk1 (by omega)
    · have d3 : decide ((y0.2 : Int) ≥ ((k.map labR).length : Nat)) = true := decide_eq_true (by rw [hk]; omega)
      rw [List.drop_of_length_le (by omega : k.length ≤ y0.2)]
      iterate 7
        repeat' (first | exact True.intro | ((first | refine ⟨y0.2, _, rfl, hgx, ?_⟩ | refine And.intro (fun _ => ?_) tf | refine And.intro ft (fun _ => ?_) | refine And.intro (by kernel_rfl) ?_ | refine And.intro (by decide) ?_ | refine And.intro (fun _ => ?_) (fun h => absurd h (by decide)) | refine And.intro (fun h => absurd h (by decide)) (fun _ => ?_) | fail); conv => whnf) | (refine And.intro (fun _ => ?_) (fun _ => ?_) <;> conv => whnf) | fail)
        all_goals try (refine Or.inl ?_; conv => whnf)
      all_goals try exact (bnl e0 ‹(y0.1 == 0) = false›).elim
      all_goals try exact (bnl d1 ‹_›).elim
      all_goals try exact (bnl ‹_› d2).elim
      all_goals try exact (bnl d3 ‹_›).elim
      all_goals refine ⟨[], ?_⟩
      repeat (any_goals (first | exact True.intro | exact rfl | with_reducible_and_instances rfl | exact (by kernel_rfl) | refine And.intro ?_ ?_))
      all_goals conv => whnf
  · rw [List.drop_of_length_le (by omega : l.length ≤ y0.2)]
    have d1 : decide ((y0.2 : Int) < ((l.map labR).length : Nat)) = false := decide_eq_false (by rw [hl]; omega)
    have d2 : decide ((y0.2 : Int) ≥ ((l.map labR).length : Nat)) = true := decide_eq_true (by rw [hl]; omega)
    by_cases hkt : y0.2 < k.length
    · have d3 : decide ((y0.2 : Int) < ((k.map labR).length : Nat)) = true := decide_eq_true (by rw [hk]; omega)
      rw [drop_cons (List.getElem?_eq_getElem hkt)]
      iterate 7
        repeat' (first | exact True.intro | ((first | refine And.intro (fun _ => ?_) tf | refine And.intro ft (fun _ => ?_) | refine And.intro (by kernel_rfl) ?_ | refine And.intro (by decide) ?_ | refine And.intro (fun _ => ?_) (fun h => absurd h (by decide)) | refine And.intro (fun h => absurd h (by decide)) (fun _ => ?_) | fail); conv => whnf) | (refine And.intro (fun _ => ?_) (fun _ => ?_) <;> conv => whnf) | fail)
        all_goals try (refine Or.inl ?_; conv => whnf)
      all_goals try exact (bnl e0 ‹(y0.1 == 0) = false›).elim
      all_goals try exact (bnl ‹_› d1).elim
      all_goals try exact (bnl d2 ‹_›).elim
      all_goals try exact (bnl d3 ‹_›).elim
      all_goals refine ⟨[], ?_⟩
      repeat (any_goals (first | exact True.intro | exact rfl | with_reducible_and_instances rfl | exact (by kernel_rfl) | refine And.intro ?_ ?_))
      all_goals conv => whnf
    · have d3 : decide ((y0.2 : Int) < ((k.map labR).length : Nat)) = false := decide_eq_false (by rw [hk]; omega)
      rw [List.drop_of_length_le (by omega : k.length ≤ y0.2)]
      iterate 7
        repeat' (first | exact True.intro | ((first | refine And.intro (fun _ => ?_) tf | refine And.intro ft (fun _ => ?_) | refine And.intro (by kernel_rfl) ?_ | refine And.intro (by decide) ?_ | refine And.intro (fun _ => ?_) (fun h => absurd h (by decide)) | refine And.intro (fun h => absurd h (by decide)) (fun _ => ?_) | fail); conv => whnf) | (refine And.intro (fun _ => ?_) (fun _ => ?_) <;> conv => whnf) | fail)
        all_goals try (refine Or.inl ?_; conv => whnf)
      all_goals try exact (bnl e0 ‹(y0.1 == 0) = false›).elim
      all_goals try exact (bnl ‹_› d1).elim
      all_goals try exact (bnl ‹_› d3).elim
      all_goals refine ⟨[], ?_⟩
      repeat (any_goals (first | exact True.intro | exact rfl | with_reducible_and_instances rfl | exact (by kernel_rfl) | refine And.intro ?_ ?_))
      all_goals conv => whnf
      rw [hz]; rfl
end Go.Proofs.YtpnbpcdmiiakcaaDoor
/- label: is a series right? -/
namespace Go.Proofs.YtpnbpcdmiiakcaaDoor
set_option linter.unusedSimpArgs false
set_option linter.unusedVariables false
open Go.RowKit
set_option maxRecDepth 100000
def chkL : Option Bt → List Lab → Bool
  | _, [] => true
  | p, x :: r => labB x && ((match p with | none => true | some a => decide (a < x.1)) && chkL (some x.1) r)
def rightB (s : Ser) : Bool := nameL s.1 && (decide (s.2.length ≤ 8) && chkL none s.2)
def prvL (l : List Lab) (i : Nat) : Option Bt := if i = 0 then none else (l[i - 1]?).map (·.1)
theorem prvL_succ {l : List Lab} {i : Nat} {x : Lab} (h : l[i]? = some x) : prvL l (i + 1) = some x.1 := by
  unfold prvL
  rw [if_neg (by omega), Nat.add_sub_cancel, h]
  rfl
theorem prvL_zero (l : List Lab) : prvL l 0 = none := rfl
theorem sub_one {i : Nat} (h : 0 < i) (h2 : i ≤ 1000000) : IntKind.i64.wrap ((i : Int) - 1) = ((i - 1 : Nat) : Int) := by
  rw [wi (by omega) (by omega)]
  omega
theorem right8 {s : Ser} (h : rightB s = true) : s.2.length ≤ 8 := by
  unfold rightB at h
  simp only [Bool.and_eq_true, decide_eq_true_eq] at h
  exact h.2.1
set_option maxHeartbeats 4000000 in
theorem sRight_sat (s : Ser) : Sat Tryd.prog 12 [.d (serD s)] [] (bA (rightB s)) [] := by
  obtain ⟨nm, l⟩ := s
  have hl : (l.map labR).length = l.length := List.length_map _
  have n1 := named_sat nm
  show Sat _ _ _ _ (bA (nameL nm && (decide (l.length ≤ 8) && chkL none l))) _
  cases hnm : nameL nm with
  | false =>
    rw [hnm] at n1
    refine sat_of_vc (T := tiOf Tryd.prog) (E := E0) Tryd.func12 rfl rfl hE0 hm0 rfl ?_
    conv => whnf
    iterate 4
      repeat' (first | exact True.intro | ((first | refine And.intro (fun _ => ?_) tf | refine And.intro ft (fun _ => ?_) | refine And.intro (by kernel_rfl) ?_ | refine And.intro (by decide) ?_ | refine And.intro (fun _ => ?_) (fun h => absurd h (by decide)) | refine And.intro (fun h => absurd h (by decide)) (fun _ => ?_) | refine ⟨_, _, n1.pu rfl rfl, ?_⟩ | fail); conv => whnf) | (refine And.intro (fun _ => ?_) (fun _ => ?_) <;> conv => whnf) | fail)
      all_goals try (refine Or.inl ?_; conv => whnf)
    all_goals try (exfalso; simp only [decide_eq_true_eq, decide_eq_false_iff_not, Bool.not_eq_true', Bool.not_eq_false', Bool.not_eq_true, Bool.not_eq_false, beq_iff_eq, bne_iff_ne, beq_eq_false_iff_ne, bne_eq_false_iff_eq, ne_eq, Decidable.not_not] at *; first | omega | contradiction | (simp_all; done) | (simp_all; omega))
    all_goals refine ⟨[], ?_⟩
    repeat (any_goals (first | exact True.intro | exact rfl | with_reducible_and_instances rfl | exact (by kernel_rfl) | refine And.intro ?_ ?_))
    all_goals conv => whnf
  | true =>
  rw [hnm] at n1
  by_cases h8 : l.length ≤ 8
  case neg =>
    rw [decide_eq_false h8]
    refine sat_of_vc (T := tiOf Tryd.prog) (E := E0) Tryd.func12 rfl rfl hE0 hm0 rfl ?_
    conv => whnf
    iterate 4
      repeat' (first | exact True.intro | ((first | refine And.intro (fun _ => ?_) tf | refine And.intro ft (fun _ => ?_) | refine And.intro (by kernel_rfl) ?_ | refine And.intro (by decide) ?_ | refine And.intro (fun _ => ?_) (fun h => absurd h (by decide)) | refine And.intro (fun h => absurd h (by decide)) (fun _ => ?_) | refine ⟨_, _, n1.pu rfl rfl, ?_⟩ | fail); conv => whnf) | (refine And.intro (fun _ => ?_) (fun _ => ?_) <;> conv => whnf) | fail)
      all_goals try (refine Or.inl ?_; conv => whnf)
    all_goals try (exfalso; simp only [decide_eq_true_eq, decide_eq_false_iff_not, Bool.not_eq_true', Bool.not_eq_false', Bool.not_eq_true, Bool.not_eq_false, beq_iff_eq, bne_iff_ne, beq_eq_false_iff_ne, bne_eq_false_iff_eq, ne_eq, Decidable.not_not] at *; first | omega | contradiction | (simp_all; done) | (simp_all; omega))
    all_goals refine ⟨[], ?_⟩
    repeat (any_goals (first | exact True.intro | exact rfl | with_reducible_and_instances rfl | exact (by kernel_rfl) | refine And.intro ?_ ?_))
    all_goals conv => whnf
  rw [decide_eq_true h8, Bool.true_and, Bool.true_and]
  refine sat_of_vc (T := tiOf Tryd.prog) (E := E0) Tryd.func12 rfl rfl hE0 hm0 rfl ?_
  conv => whnf
  iterate 4
    repeat' (first | exact True.intro | ((first | refine And.intro (fun _ => ?_) tf | refine And.intro ft (fun _ => ?_) | refine And.intro (by kernel_rfl) ?_ | refine And.intro (by decide) ?_ | refine And.intro (fun _ => ?_) (fun h => absurd h (by decide)) | refine And.intro (fun h => absurd h (by decide)) (fun _ => ?_) | refine ⟨_, _, n1.pu rfl rfl, ?_⟩ | fail); conv => whnf) | (refine And.intro (fun _ => ?_) (fun _ => ?_) <;> conv => whnf) | fail)
    all_goals try (refine Or.inl ?_; conv => whnf)
  all_goals try (exfalso; simp only [decide_eq_true_eq, decide_eq_false_iff_not, Bool.not_eq_true', Bool.not_eq_false', Bool.not_eq_true, Bool.not_eq_false, beq_iff_eq, bne_iff_ne, beq_eq_false_iff_ne, bne_eq_false_iff_eq, ne_eq, Decidable.not_not] at *; first | omega | contradiction | (simp_all; done) | (simp_all; omega))
  refine ⟨Nat, fun i => i ≤ l.length ∧ chkL none l = chkL (prvL l i) (l.drop i), fun i => ([(18, iA i), (17, iA (l.map labR).length), (16, .d (.sl 2 (l.map labR))), (1, .ptr 0 0)], [.cells [.d (tD nm), .d (.sl 2 (l.map labR))]]), fun i => l.length - i, ⟨0, ⟨Nat.zero_le _, rfl⟩, ?_⟩, ?_⟩
  · all_goals refine ⟨[], ?_⟩
    repeat (any_goals (first | exact True.intro | exact rfl | with_reducible_and_instances rfl | exact (by kernel_rfl) | refine And.intro ?_ ?_))
    all_goals conv => whnf
  rintro i ⟨hi, hI⟩
  rw [hI]
  conv => whnf
  by_cases hlt : i < l.length
  · have hx : l[i]? = some l[i] := List.getElem?_eq_getElem hlt
    generalize l[i] = x at hx
    have hgx := map_get (f := labR) hx
    have v1 := valid_sat x
    rw [drop_cons hx] at *
    have d1 : decide ((i : Int) < ((l.map labR).length : Nat)) = true := decide_eq_true (by rw [hl]; omega)
    have nxt := prvL_succ hx
    cases hv : labB x with
    | false =>
      rw [hv] at v1
      rw [show chkL (prvL l i) (x :: l.drop (i + 1)) = false from by simp [chkL, hv]]
      iterate 5
        repeat' (first | exact True.intro | ((first | refine ⟨i, _, rfl, hgx, ?_⟩ | refine And.intro (fun _ => ?_) tf | refine And.intro ft (fun _ => ?_) | refine And.intro (by kernel_rfl) ?_ | refine And.intro (by decide) ?_ | refine And.intro (fun _ => ?_) (fun h => absurd h (by decide)) | refine And.intro (fun h => absurd h (by decide)) (fun _ => ?_) | refine ⟨_, _, v1.pu rfl rfl, ?_⟩ | fail); conv => whnf) | (refine And.intro (fun _ => ?_) (fun _ => ?_) <;> conv => whnf) | fail)
        all_goals try (refine Or.inl ?_; conv => whnf)
      all_goals try exact (bnl d1 ‹_›).elim
      all_goals try (exfalso; simp only [decide_eq_true_eq, decide_eq_false_iff_not, Bool.not_eq_true', Bool.not_eq_false', Bool.not_eq_true, Bool.not_eq_false, beq_iff_eq, bne_iff_ne, beq_eq_false_iff_ne, bne_eq_false_iff_eq, ne_eq, Decidable.not_not] at *; first | omega | contradiction | (simp_all; done) | (simp_all; omega))
      all_goals refine ⟨[], ?_⟩
      repeat (any_goals (first | exact True.intro | exact rfl | with_reducible_and_instances rfl | exact (by kernel_rfl) | refine And.intro ?_ ?_))
      all_goals conv => whnf
    | true =>
      rw [hv] at v1
      by_cases h0 : i = 0
      · have e : chkL (prvL l i) (x :: l.drop (i + 1)) = chkL (prvL l (i + 1)) (l.drop (i + 1)) := by
          rw [nxt, h0, prvL_zero]; simp [chkL, hv]
        rw [e] at *
        iterate 5
          repeat' (first | exact True.intro | ((first | refine ⟨i, _, rfl, hgx, ?_⟩ | refine And.intro (fun _ => ?_) tf | refine And.intro ft (fun _ => ?_) | refine And.intro (by kernel_rfl) ?_ | refine And.intro (by decide) ?_ | refine And.intro (fun _ => ?_) (fun h => absurd h (by decide)) | refine And.intro (fun h => absurd h (by decide)) (fun _ => ?_) | refine ⟨_, _, v1.pu rfl rfl, ?_⟩ | fail); conv => whnf) | (refine And.intro (fun _ => ?_) (fun _ => ?_) <;> conv => whnf) | fail)
          all_goals try (refine Or.inl ?_; conv => whnf)
        all_goals try (exfalso; simp only [decide_eq_true_eq, decide_eq_false_iff_not, Bool.not_eq_true', Bool.not_eq_false', Bool.not_eq_true, Bool.not_eq_false, beq_iff_eq, bne_iff_ne, beq_eq_false_iff_ne, bne_eq_false_iff_eq, ne_eq, Decidable.not_not] at *; first | omega | contradiction | (simp_all; done) | (simp_all; omega))
        refine ⟨i + 1, ⟨hlt, rfl⟩, show l.length - (i + 1) < l.length - i by omega, ?_⟩
        all_goals refine ⟨[], ?_⟩
        repeat (any_goals (first | exact True.intro | exact rfl | with_reducible_and_instances rfl | exact (by kernel_rfl) | refine And.intro ?_ ?_))
        all_goals conv => whnf
        exact wk1 (by omega)
      · have hlp : i - 1 < l.length := by omega
        have hp : l[i - 1]? = some l[i - 1] := List.getElem?_eq_getElem hlp
        generalize l[i - 1] = p at hp
        have hgp := map_get (f := labR) hp
        have hs1 := sub_one (by omega : 0 < i) (by omega)
        have e : chkL (prvL l i) (x :: l.drop (i + 1)) = (decide (p.1 < x.1) && chkL (prvL l (i + 1)) (l.drop (i + 1))) := by
          rw [nxt, show prvL l i = some p.1 by unfold prvL; rw [if_neg h0, hp]; rfl]; simp [chkL, hv]
        rw [e] at *
        by_cases hc : p.1 < x.1
        · have hc' : (!decide (p.1 < x.1)) = false := by rw [decide_eq_true hc]; rfl
          rw [decide_eq_true hc, Bool.true_and]
          iterate 7
            repeat' (first | exact True.intro | ((first | refine ⟨i, _, rfl, hgx, ?_⟩ | refine ⟨i - 1, _, hs1, hgp, ?_⟩ | refine And.intro (fun _ => ?_) tf | refine And.intro ft (fun _ => ?_) | refine And.intro (by kernel_rfl) ?_ | refine And.intro (by decide) ?_ | refine And.intro (fun _ => ?_) (fun h => absurd h (by decide)) | refine And.intro (fun h => absurd h (by decide)) (fun _ => ?_) | refine ⟨_, _, v1.pu rfl rfl, ?_⟩ | refine ⟨_, _, geL', ?_⟩ | fail); conv => whnf) | (refine And.intro (fun _ => ?_) (fun _ => ?_) <;> conv => whnf) | fail)
            all_goals try (refine Or.inl ?_; conv => whnf)
          all_goals try exact (bnl ‹(!decide (p.1 < x.1)) = true› hc').elim
          all_goals try (exfalso; simp only [decide_eq_true_eq, decide_eq_false_iff_not, Bool.not_eq_true', Bool.not_eq_false', Bool.not_eq_true, Bool.not_eq_false, beq_iff_eq, bne_iff_ne, beq_eq_false_iff_ne, bne_eq_false_iff_eq, ne_eq, Decidable.not_not] at *; first | omega | contradiction | (simp_all; done) | (simp_all; omega))
          refine ⟨i + 1, ⟨hlt, rfl⟩, show l.length - (i + 1) < l.length - i by omega, ?_⟩
          all_goals refine ⟨[], ?_⟩
          repeat (any_goals (first | exact True.intro | exact rfl | with_reducible_and_instances rfl | exact (by kernel_rfl) | refine And.intro ?_ ?_))
          all_goals conv => whnf
          exact wk1 (by omega)
        · have hc' : (!decide (p.1 < x.1)) = true := by rw [decide_eq_false hc]; rfl
          rw [decide_eq_false hc, Bool.false_and]
          iterate 7
            repeat' (first | exact True.intro | ((first | refine ⟨i, _, rfl, hgx, ?_⟩ | refine ⟨i - 1, _, hs1, hgp, ?_⟩ | refine And.intro (fun _ => ?_) tf | refine And.intro ft (fun _ => ?_) | refine And.intro (by kernel_rfl) ?_ | refine And.intro (by decide) ?_ | refine And.intro (fun _ => ?_) (fun h => absurd h (by decide)) | refine And.intro (fun h => absurd h (by decide)) (fun _ => ?_) | refine ⟨_, _, v1.pu rfl rfl, ?_⟩ | refine ⟨_, _, geL', ?_⟩ | fail); conv => whnf) | (refine And.intro (fun _ => ?_) (fun _ => ?_) <;> conv => whnf) | fail)
            all_goals try (refine Or.inl ?_; conv => whnf)
          all_goals try exact (bnl hc' ‹(!decide (p.1 < x.1)) = false›).elim
          all_goals try (exfalso; simp only [decide_eq_true_eq, decide_eq_false_iff_not, Bool.not_eq_true', Bool.not_eq_false', Bool.not_eq_true, Bool.not_eq_false, beq_iff_eq, bne_iff_ne, beq_eq_false_iff_ne, bne_eq_false_iff_eq, ne_eq, Decidable.not_not] at *; first | omega | contradiction | (simp_all; done) | (simp_all; omega))
          all_goals refine ⟨[], ?_⟩
          repeat (any_goals (first | exact True.intro | exact rfl | with_reducible_and_instances rfl | exact (by kernel_rfl) | refine And.intro ?_ ?_))
          all_goals conv => whnf
  · rw [List.drop_of_length_le (by omega : l.length ≤ i)]
    iterate 5
      repeat' (first | exact True.intro | ((first | refine And.intro (fun _ => ?_) tf | refine And.intro ft (fun _ => ?_) | refine And.intro (by kernel_rfl) ?_ | refine And.intro (by decide) ?_ | refine And.intro (fun _ => ?_) (fun h => absurd h (by decide)) | refine And.intro (fun h => absurd h (by decide)) (fun _ => ?_) | fail); conv => whnf) | (refine And.intro (fun _ => ?_) (fun _ => ?_) <;> conv => whnf) | fail)
      all_goals try (refine Or.inl ?_; conv => whnf)
    all_goals try (exfalso; simp only [decide_eq_true_eq, decide_eq_false_iff_not, Bool.not_eq_true', Bool.not_eq_false', Bool.not_eq_true, Bool.not_eq_false, beq_iff_eq, bne_iff_ne, beq_eq_false_iff_ne, bne_eq_false_iff_eq, ne_eq, Decidable.not_not] at *; first | omega | contradiction | (simp_all; done) | (simp_all; omega))
    all_goals refine ⟨[], ?_⟩
    repeat (any_goals (first | exact True.intro | exact rfl | with_reducible_and_instances rfl | exact (by kernel_rfl) | refine And.intro ?_ ?_))
    all_goals conv => whnf
end Go.Proofs.YtpnbpcdmiiakcaaDoor
/- label: the document's: is a series right? A series as the document has it; are two the same? -/
namespace Go.Proofs.YtpnbpcdmiiakcaaDoor
set_option linter.unusedSimpArgs false
set_option linter.unusedVariables false
open Go.RowKit
set_option maxRecDepth 100000
set_option maxHeartbeats 4000000 in
theorem rRight_sat (s : Ser) : Sat Tryd.prog 13 [.d (serD s)] [] (bA (rightB s)) [] := by
  obtain ⟨nm, l⟩ := s
  have hl : (l.map labR).length = l.length := List.length_map _
  have n1 := rName_sat nm
  show Sat _ _ _ _ (bA (nameL nm && (decide (l.length ≤ 8) && chkL none l))) _
  cases hnm : nameL nm with
  | false =>
    rw [hnm] at n1
    refine sat_of_vc (T := tiOf Tryd.prog) (E := E0) Tryd.func13 rfl rfl hE0 hm0 rfl ?_
    conv => whnf
    iterate 4
      repeat' (first | exact True.intro | ((first | refine And.intro (fun _ => ?_) tf | refine And.intro ft (fun _ => ?_) | refine And.intro (by kernel_rfl) ?_ | refine And.intro (by decide) ?_ | refine And.intro (fun _ => ?_) (fun h => absurd h (by decide)) | refine And.intro (fun h => absurd h (by decide)) (fun _ => ?_) | refine ⟨_, _, n1.pu rfl rfl, ?_⟩ | fail); conv => whnf) | (refine And.intro (fun _ => ?_) (fun _ => ?_) <;> conv => whnf) | fail)
      all_goals try (refine Or.inl ?_; conv => whnf)
    all_goals try (exfalso; simp only [decide_eq_true_eq, decide_eq_false_iff_not, Bool.not_eq_true', Bool.not_eq_false', Bool.not_eq_true, Bool.not_eq_false, beq_iff_eq, bne_iff_ne, beq_eq_false_iff_ne, bne_eq_false_iff_eq, ne_eq, Decidable.not_not] at *; first | omega | contradiction | (simp_all; done) | (simp_all; omega))
    all_goals refine ⟨[], ?_⟩
    repeat (any_goals (first | exact True.intro | exact rfl | with_reducible_and_instances rfl | exact (by kernel_rfl) | refine And.intro ?_ ?_))
    all_goals conv => whnf
  | true =>
  rw [hnm] at n1
  by_cases h8 : l.length ≤ 8
  case neg =>
    rw [decide_eq_false h8]
    refine sat_of_vc (T := tiOf Tryd.prog) (E := E0) Tryd.func13 rfl rfl hE0 hm0 rfl ?_
    conv => whnf
    iterate 4
      repeat' (first | exact True.intro | ((first | refine And.intro (fun _ => ?_) tf | refine And.intro ft (fun _ => ?_) | refine And.intro (by kernel_rfl) ?_ | refine And.intro (by decide) ?_ | refine And.intro (fun _ => ?_) (fun h => absurd h (by decide)) | refine And.intro (fun h => absurd h (by decide)) (fun _ => ?_) | refine ⟨_, _, n1.pu rfl rfl, ?_⟩ | fail); conv => whnf) | (refine And.intro (fun _ => ?_) (fun _ => ?_) <;> conv => whnf) | fail)
      all_goals try (refine Or.inl ?_; conv => whnf)
    all_goals try (exfalso; simp only [decide_eq_true_eq, decide_eq_false_iff_not, Bool.not_eq_true', Bool.not_eq_false', Bool.not_eq_true, Bool.not_eq_false, beq_iff_eq, bne_iff_ne, beq_eq_false_iff_ne, bne_eq_false_iff_eq, ne_eq, Decidable.not_not] at *; first | omega | contradiction | (simp_all; done) | (simp_all; omega))
    all_goals refine ⟨[], ?_⟩
    repeat (any_goals (first | exact True.intro | exact rfl | with_reducible_and_instances rfl | exact (by kernel_rfl) | refine And.intro ?_ ?_))
    all_goals conv => whnf
  rw [decide_eq_true h8, Bool.true_and, Bool.true_and]
  refine sat_of_vc (T := tiOf Tryd.prog) (E := E0) Tryd.func13 rfl rfl hE0 hm0 rfl ?_
  conv => whnf
  iterate 4
    repeat' (first | exact True.intro | ((first | refine And.intro (fun _ => ?_) tf | refine And.intro ft (fun _ => ?_) | refine And.intro (by kernel_rfl) ?_ | refine And.intro (by decide) ?_ | refine And.intro (fun _ => ?_) (fun h => absurd h (by decide)) | refine And.intro (fun h => absurd h (by decide)) (fun _ => ?_) | refine ⟨_, _, n1.pu rfl rfl, ?_⟩ | fail); conv => whnf) | (refine And.intro (fun _ => ?_) (fun _ => ?_) <;> conv => whnf) | fail)
    all_goals try (refine Or.inl ?_; conv => whnf)
  all_goals try (exfalso; simp only [decide_eq_true_eq, decide_eq_false_iff_not, Bool.not_eq_true', Bool.not_eq_false', Bool.not_eq_true, Bool.not_eq_false, beq_iff_eq, bne_iff_ne, beq_eq_false_iff_ne, bne_eq_false_iff_eq, ne_eq, Decidable.not_not] at *; first | omega | contradiction | (simp_all; done) | (simp_all; omega))
  refine ⟨Nat, fun i => i ≤ l.length ∧ chkL none l = chkL (prvL l i) (l.drop i), fun i => ([(3, iA i), (1, .ptr 0 0)], [.cells [.d (tD nm), .d (.sl 2 (l.map labR))]]), fun i => l.length - i, ⟨0, ⟨Nat.zero_le _, rfl⟩, ?_⟩, ?_⟩
  · all_goals refine ⟨[], ?_⟩
    repeat (any_goals (first | exact True.intro | exact rfl | with_reducible_and_instances rfl | exact (by kernel_rfl) | refine And.intro ?_ ?_))
    all_goals conv => whnf
  rintro i ⟨hi, hI⟩
  rw [hI]
  conv => whnf
  by_cases hlt : i < l.length
  · have hx : l[i]? = some l[i] := List.getElem?_eq_getElem hlt
    generalize l[i] = x at hx
    have hgx := map_get (f := labR) hx
    have v1 := rName_sat x.1
    have v2 := rValue_sat x.2
    rw [drop_cons hx] at *
    have d1 : decide ((i : Int) < ((l.map labR).length : Nat)) = true := decide_eq_true (by rw [hl]; omega)
    have nxt := prvL_succ hx
    cases hv : labB x with
    | false =>
      rw [show chkL (prvL l i) (x :: l.drop (i + 1)) = false from by simp [chkL, hv]]
      cases hnx : nameL x.1 with
      | false =>
        rw [hnx] at v1
        iterate 5
          repeat' (first | exact True.intro | ((first | refine ⟨i, _, rfl, hgx, ?_⟩ | refine And.intro (fun _ => ?_) tf | refine And.intro ft (fun _ => ?_) | refine And.intro (by kernel_rfl) ?_ | refine And.intro (by decide) ?_ | refine And.intro (fun _ => ?_) (fun h => absurd h (by decide)) | refine And.intro (fun h => absurd h (by decide)) (fun _ => ?_) | refine ⟨_, _, v1.pu rfl rfl, ?_⟩ | refine ⟨_, _, v2.pu rfl rfl, ?_⟩ | fail); conv => whnf) | (refine And.intro (fun _ => ?_) (fun _ => ?_) <;> conv => whnf) | fail)
          all_goals try (refine Or.inl ?_; conv => whnf)
        all_goals try exact (bnl d1 ‹_›).elim
        all_goals try (exfalso; simp only [decide_eq_true_eq, decide_eq_false_iff_not, Bool.not_eq_true', Bool.not_eq_false', Bool.not_eq_true, Bool.not_eq_false, beq_iff_eq, bne_iff_ne, beq_eq_false_iff_ne, bne_eq_false_iff_eq, ne_eq, Decidable.not_not] at *; first | omega | contradiction | (simp_all; done) | (simp_all; omega))
        all_goals refine ⟨[], ?_⟩
        repeat (any_goals (first | exact True.intro | exact rfl | with_reducible_and_instances rfl | exact (by kernel_rfl) | refine And.intro ?_ ?_))
        all_goals conv => whnf
      | true =>
        have hvx : valueL x.2 = false := by
          unfold labB at hv
          rw [hnx, Bool.and_true] at hv
          exact hv
        rw [hnx] at v1
        rw [hvx] at v2
        iterate 5
          repeat' (first | exact True.intro | ((first | refine ⟨i, _, rfl, hgx, ?_⟩ | refine And.intro (fun _ => ?_) tf | refine And.intro ft (fun _ => ?_) | refine And.intro (by kernel_rfl) ?_ | refine And.intro (by decide) ?_ | refine And.intro (fun _ => ?_) (fun h => absurd h (by decide)) | refine And.intro (fun h => absurd h (by decide)) (fun _ => ?_) | refine ⟨_, _, v1.pu rfl rfl, ?_⟩ | refine ⟨_, _, v2.pu rfl rfl, ?_⟩ | fail); conv => whnf) | (refine And.intro (fun _ => ?_) (fun _ => ?_) <;> conv => whnf) | fail)
          all_goals try (refine Or.inl ?_; conv => whnf)
        all_goals try exact (bnl d1 ‹_›).elim
        all_goals try (exfalso; simp only [decide_eq_true_eq, decide_eq_false_iff_not, Bool.not_eq_true', Bool.not_eq_false', Bool.not_eq_true, Bool.not_eq_false, beq_iff_eq, bne_iff_ne, beq_eq_false_iff_ne, bne_eq_false_iff_eq, ne_eq, Decidable.not_not] at *; first | omega | contradiction | (simp_all; done) | (simp_all; omega))
        all_goals refine ⟨[], ?_⟩
        repeat (any_goals (first | exact True.intro | exact rfl | with_reducible_and_instances rfl | exact (by kernel_rfl) | refine And.intro ?_ ?_))
        all_goals conv => whnf
    | true =>
      have hv2 : valueL x.2 = true ∧ nameL x.1 = true := by unfold labB at hv; simpa using hv
      rw [hv2.2] at v1
      rw [hv2.1] at v2
      by_cases h0 : i = 0
      · have e : chkL (prvL l i) (x :: l.drop (i + 1)) = chkL (prvL l (i + 1)) (l.drop (i + 1)) := by
          rw [nxt, h0, prvL_zero]; simp [chkL, hv]
        rw [e] at *
        iterate 5
          repeat' (first | exact True.intro | ((first | refine ⟨i, _, rfl, hgx, ?_⟩ | refine And.intro (fun _ => ?_) tf | refine And.intro ft (fun _ => ?_) | refine And.intro (by kernel_rfl) ?_ | refine And.intro (by decide) ?_ | refine And.intro (fun _ => ?_) (fun h => absurd h (by decide)) | refine And.intro (fun h => absurd h (by decide)) (fun _ => ?_) | refine ⟨_, _, v1.pu rfl rfl, ?_⟩ | refine ⟨_, _, v2.pu rfl rfl, ?_⟩ | fail); conv => whnf) | (refine And.intro (fun _ => ?_) (fun _ => ?_) <;> conv => whnf) | fail)
          all_goals try (refine Or.inl ?_; conv => whnf)
        all_goals try (exfalso; simp only [decide_eq_true_eq, decide_eq_false_iff_not, Bool.not_eq_true', Bool.not_eq_false', Bool.not_eq_true, Bool.not_eq_false, beq_iff_eq, bne_iff_ne, beq_eq_false_iff_ne, bne_eq_false_iff_eq, ne_eq, Decidable.not_not] at *; first | omega | contradiction | (simp_all; done) | (simp_all; omega))
        refine ⟨i + 1, ⟨hlt, rfl⟩, show l.length - (i + 1) < l.length - i by omega, ?_⟩
        all_goals refine ⟨[], ?_⟩
        repeat (any_goals (first | exact True.intro | exact rfl | with_reducible_and_instances rfl | exact (by kernel_rfl) | refine And.intro ?_ ?_))
        all_goals conv => whnf
        exact wk1 (by omega)
      · have hlp : i - 1 < l.length := by omega
        have hp : l[i - 1]? = some l[i - 1] := List.getElem?_eq_getElem hlp
        generalize l[i - 1] = p at hp
        have hgp := map_get (f := labR) hp
        have hs1 := sub_one (by omega : 0 < i) (by omega)
        have e : chkL (prvL l i) (x :: l.drop (i + 1)) = (decide (p.1 < x.1) && chkL (prvL l (i + 1)) (l.drop (i + 1))) := by
          rw [nxt, show prvL l i = some p.1 by unfold prvL; rw [if_neg h0, hp]; rfl]; simp [chkL, hv]
        rw [e] at *
        by_cases hc : p.1 < x.1
        · have hc' : (!decide (p.1 < x.1)) = false := by rw [decide_eq_true hc]; rfl
          rw [decide_eq_true hc, Bool.true_and]
          iterate 7
            repeat' (first | exact True.intro | ((first | refine ⟨i, _, rfl, hgx, ?_⟩ | refine ⟨i - 1, _, hs1, hgp, ?_⟩ | refine And.intro (fun _ => ?_) tf | refine And.intro ft (fun _ => ?_) | refine And.intro (by kernel_rfl) ?_ | refine And.intro (by decide) ?_ | refine And.intro (fun _ => ?_) (fun h => absurd h (by decide)) | refine And.intro (fun h => absurd h (by decide)) (fun _ => ?_) | refine ⟨_, _, v1.pu rfl rfl, ?_⟩ | refine ⟨_, _, v2.pu rfl rfl, ?_⟩ | refine ⟨_, _, geL', ?_⟩ | fail); conv => whnf) | (refine And.intro (fun _ => ?_) (fun _ => ?_) <;> conv => whnf) | fail)
            all_goals try (refine Or.inl ?_; conv => whnf)
          all_goals try exact (bnl ‹(!decide (p.1 < x.1)) = true› hc').elim
          all_goals try (exfalso; simp only [decide_eq_true_eq, decide_eq_false_iff_not, Bool.not_eq_true', Bool.not_eq_false', Bool.not_eq_true, Bool.not_eq_false, beq_iff_eq, bne_iff_ne, beq_eq_false_iff_ne, bne_eq_false_iff_eq, ne_eq, Decidable.not_not] at *; first | omega | contradiction | (simp_all; done) | (simp_all; omega))
          refine ⟨i + 1, ⟨hlt, rfl⟩, show l.length - (i + 1) < l.length - i by omega, ?_⟩
          all_goals refine ⟨[], ?_⟩
          repeat (any_goals (first | exact True.intro | exact rfl | with_reducible_and_instances rfl | exact (by kernel_rfl) | refine And.intro ?_ ?_))
          all_goals conv => whnf
          exact wk1 (by omega)
        · have hc' : (!decide (p.1 < x.1)) = true := by rw [decide_eq_false hc]; rfl
          rw [decide_eq_false hc, Bool.false_and]
          iterate 7
            repeat' (first | exact True.intro | ((first | refine ⟨i, _, rfl, hgx, ?_⟩ | refine ⟨i - 1, _, hs1, hgp, ?_⟩ | refine And.intro (fun _ => ?_) tf | refine And.intro ft (fun _ => ?_) | refine And.intro (by kernel_rfl) ?_ | refine And.intro (by decide) ?_ | refine And.intro (fun _ => ?_) (fun h => absurd h (by decide)) | refine And.intro (fun h => absurd h (by decide)) (fun _ => ?_) | refine ⟨_, _, v1.pu rfl rfl, ?_⟩ | refine ⟨_, _, v2.pu rfl rfl, ?_⟩ | refine ⟨_, _, geL', ?_⟩ | fail); conv => whnf) | (refine And.intro (fun _ => ?_) (fun _ => ?_) <;> conv => whnf) | fail)
            all_goals try (refine Or.inl ?_; conv => whnf)
          all_goals try exact (bnl hc' ‹(!decide (p.1 < x.1)) = false›).elim
          all_goals try (exfalso; simp only [decide_eq_true_eq, decide_eq_false_iff_not, Bool.not_eq_true', Bool.not_eq_false', Bool.not_eq_true, Bool.not_eq_false, beq_iff_eq, bne_iff_ne, beq_eq_false_iff_ne, bne_eq_false_iff_eq, ne_eq, Decidable.not_not] at *; first | omega | contradiction | (simp_all; done) | (simp_all; omega))
          all_goals refine ⟨[], ?_⟩
          repeat (any_goals (first | exact True.intro | exact rfl | with_reducible_and_instances rfl | exact (by kernel_rfl) | refine And.intro ?_ ?_))
          all_goals conv => whnf
  · rw [List.drop_of_length_le (by omega : l.length ≤ i)]
    iterate 5
      repeat' (first | exact True.intro | ((first | refine And.intro (fun _ => ?_) tf | refine And.intro ft (fun _ => ?_) | refine And.intro (by kernel_rfl) ?_ | refine And.intro (by decide) ?_ | refine And.intro (fun _ => ?_) (fun h => absurd h (by decide)) | refine And.intro (fun h => absurd h (by decide)) (fun _ => ?_) | fail); conv => whnf) | (refine And.intro (fun _ => ?_) (fun _ => ?_) <;> conv => whnf) | fail)
      all_goals try (refine Or.inl ?_; conv => whnf)
    all_goals try (exfalso; simp only [decide_eq_true_eq, decide_eq_false_iff_not, Bool.not_eq_true', Bool.not_eq_false', Bool.not_eq_true, Bool.not_eq_false, beq_iff_eq, bne_iff_ne, beq_eq_false_iff_ne, bne_eq_false_iff_eq, ne_eq, Decidable.not_not] at *; first | omega | contradiction | (simp_all; done) | (simp_all; omega))
    all_goals refine ⟨[], ?_⟩
    repeat (any_goals (first | exact True.intro | exact rfl | with_reducible_and_instances rfl | exact (by kernel_rfl) | refine And.intro ?_ ?_))
    all_goals conv => whnf
theorem ordB_zero {a b : Bt} : ordB a b = 0 ↔ a = b := by
  unfold ordB
  constructor
  · intro h
    by_cases h1 : a < b
    · rw [if_pos h1] at h; cases h
    · rw [if_neg h1] at h
      by_cases h2 : b < a
      · rw [if_pos h2] at h; cases h
      · exact List.le_antisymm (List.not_lt.1 h2) (List.not_lt.1 h1)
  · rintro rfl
    rw [if_neg (List.lt_irrefl _), if_neg (List.lt_irrefl _)]
theorem orI_zero {a b : Int} : orI a b = 0 ↔ a = 0 ∧ b = 0 := by
  unfold orI
  split
  · constructor
    · intro h; contradiction
    · rintro ⟨h, _⟩; contradiction
  · rename_i h
    simp only [ne_eq, Decidable.not_not] at h
    simp [h]
theorem labsCmp_zero : ∀ {l k : List Lab}, labsCmp l k = 0 ↔ l = k
  | [], [] => by simp [labsCmp]
  | [], _ :: _ => by simp [labsCmp]
  | _ :: _, [] => by simp [labsCmp]
  | a :: r, b :: r' => by
    rw [show labsCmp (a :: r) (b :: r') = orI (labCmp a b) (labsCmp r r') from rfl, orI_zero, labsCmp_zero (l := r) (k := r')]
    unfold labCmp
    rw [orI_zero, ordB_zero, ordB_zero, List.cons.injEq, Prod.ext_iff]
theorem serCmp_zero {a b : Ser} : serCmp a b = 0 ↔ a = b := by
  unfold serCmp
  rw [orI_zero, ordB_zero, labsCmp_zero, Prod.ext_iff]
theorem rSame_sat (a b : Ser) (hn : a.2.length ≤ 1000000) (hn' : b.2.length ≤ 1000000) : Sat Tryd.prog 11 [.d (serD a), .d (serD b)] [] (bA (decide (a = b))) [] := by
  have c1 := rCmp_sat a b hn hn'
  refine sat_of_vc (T := tiOf Tryd.prog) (E := E0) Tryd.func11 rfl rfl hE0 hm0 rfl ?_
  conv => whnf
  iterate 3
    repeat' (first | exact True.intro | ((first | refine And.intro (fun _ => ?_) tf | refine And.intro ft (fun _ => ?_) | refine And.intro (by kernel_rfl) ?_ | refine And.intro (by decide) ?_ | refine And.intro (fun _ => ?_) (fun h => absurd h (by decide)) | refine And.intro (fun h => absurd h (by decide)) (fun _ => ?_) | refine ⟨_, _, c1.pu rfl rfl, ?_⟩ | fail); conv => whnf) | (refine And.intro (fun _ => ?_) (fun _ => ?_) <;> conv => whnf) | fail)
    all_goals try (refine Or.inl ?_; conv => whnf)
  all_goals refine ⟨[], ?_⟩
  repeat (any_goals (first | exact True.intro | exact rfl | with_reducible_and_instances rfl | exact (by kernel_rfl) | refine And.intro ?_ ?_))
  all_goals conv => whnf
  rw [show (serCmp a b == 0) = decide (a = b) from by rw [Bool.eq_iff_iff, beq_iff_eq, decide_eq_true_eq, serCmp_zero]]
set_option maxHeartbeats 4000000 in
theorem ofS_sat (s : Ser) (hn : s.2.length ≤ 1000000) : Sat Tryd.prog 10 [.d (serD s)] [] (.d (serD s)) [] := by
  obtain ⟨nm, l⟩ := s
  have hn : l.length ≤ 1000000 := hn
  have hl : (l.map labR).length = l.length := List.length_map _
  refine sat_of_vc (T := tiOf Tryd.prog) (E := E0) Tryd.func10 rfl rfl hE0 hm0 rfl ?_
  conv => whnf
  iterate 2
    repeat' (first | exact True.intro | ((first | refine And.intro (fun _ => ?_) tf | refine And.intro ft (fun _ => ?_) | refine And.intro (by kernel_rfl) ?_ | refine And.intro (by decide) ?_ | refine And.intro (fun _ => ?_) (fun h => absurd h (by decide)) | refine And.intro (fun h => absurd h (by decide)) (fun _ => ?_) | fail); conv => whnf) | (refine And.intro (fun _ => ?_) (fun _ => ?_) <;> conv => whnf) | fail)
    all_goals try (refine Or.inl ?_; conv => whnf)
  refine ⟨Nat, fun i => i ≤ l.length, fun i => ([(4, iA i), (3, .ptr 2 0), (2, .ptr 1 0), (1, .ptr 0 0)], [.cells [.d (tD nm), .d (.sl 2 (l.map labR))], .cells [.d (tD []), .d (.v (.slice none 0 0))], .cells [.d (tD nm), .own 3], .sl 2 ((l.take i).map labR)]), fun i => l.length - i, ⟨0, Nat.zero_le _, ?_⟩, ?_⟩
  · all_goals refine ⟨[], ?_⟩
    repeat (any_goals (first | exact True.intro | exact rfl | with_reducible_and_instances rfl | exact (by kernel_rfl) | refine And.intro ?_ ?_))
    all_goals conv => whnf
  intro i hi
  have hi : i ≤ l.length := hi
  have hlt0 : ((l.take i).map labR).length = i := by rw [List.length_map, List.length_take]; omega
  conv => whnf
  by_cases hlt : i < l.length
  · have hx : l[i]? = some l[i] := List.getElem?_eq_getElem hlt
    generalize l[i] = x at hx
    have hgx := map_get (f := labR) hx
    have d1 : decide ((i : Int) < ((l.map labR).length : Nat)) = true := decide_eq_true (by rw [hl]; omega)
    iterate 5
      repeat' (first | exact True.intro | ((first | refine ⟨i, _, rfl, hgx, ?_⟩ | refine And.intro (fun _ => ?_) tf | refine And.intro ft (fun _ => ?_) | refine And.intro (by kernel_rfl) ?_ | refine And.intro (by decide) ?_ | refine And.intro (fun _ => ?_) (fun h => absurd h (by decide)) | refine And.intro (fun h => absurd h (by decide)) (fun _ => ?_) | refine ⟨_, _, ap 2 32 (by kernel_rfl) rfl rfl (by simp; omega), ?_⟩ | fail); conv => whnf) | (refine And.intro (fun _ => ?_) (fun _ => ?_) <;> conv => whnf) | fail)
      all_goals try (refine Or.inl ?_; conv => whnf)
    all_goals try exact (bnl d1 ‹_›).elim
    refine ⟨i + 1, hlt, show l.length - (i + 1) < l.length - i by omega, ?_⟩
    all_goals refine ⟨[(3, 5)], ?_⟩
    repeat (any_goals (first | exact True.intro | exact rfl | with_reducible_and_instances rfl | exact (by kernel_rfl) | refine And.intro ?_ ?_))
    all_goals conv => whnf
    · exact wk1 (by omega)
    · rw [map_take_succ hx]; rfl
  · iterate 5
      repeat' (first | exact True.intro | ((first | refine And.intro (fun _ => ?_) tf | refine And.intro ft (fun _ => ?_) | refine And.intro (by kernel_rfl) ?_ | refine And.intro (by decide) ?_ | refine And.intro (fun _ => ?_) (fun h => absurd h (by decide)) | refine And.intro (fun h => absurd h (by decide)) (fun _ => ?_) | fail); conv => whnf) | (refine And.intro (fun _ => ?_) (fun _ => ?_) <;> conv => whnf) | fail)
      all_goals try (refine Or.inl ?_; conv => whnf)
    all_goals try (exfalso; simp only [decide_eq_true_eq, decide_eq_false_iff_not, Bool.not_eq_true', Bool.not_eq_false', Bool.not_eq_true, Bool.not_eq_false, beq_iff_eq, bne_iff_ne, beq_eq_false_iff_ne, bne_eq_false_iff_eq, ne_eq, Decidable.not_not] at *; first | omega | contradiction | (simp_all; done) | (simp_all; omega))
    all_goals refine ⟨[], ?_⟩
    repeat (any_goals (first | exact True.intro | exact rfl | with_reducible_and_instances rfl | exact (by kernel_rfl) | refine And.intro ?_ ?_))
    all_goals conv => whnf
    rw [List.take_of_length_le (by omega)]
theorem sameS_sat (a b : Ser) (hn : a.2.length ≤ 1000000) (hn' : b.2.length ≤ 1000000) : Sat Tryd.prog 23 [.d (serD a), .d (serD b)] [] (bA (decide (a = b))) [] := by
  have o1 := ofS_sat a hn
  have o2 := ofS_sat b hn'
  have c1 := rSame_sat a b hn hn'
  refine sat_of_vc (T := tiOf Tryd.prog) (E := E0) Tryd.func23 rfl rfl hE0 hm0 rfl ?_
  conv => whnf
  iterate 3
    repeat' (first | exact True.intro | ((first | refine And.intro (fun _ => ?_) tf | refine And.intro ft (fun _ => ?_) | refine And.intro (by kernel_rfl) ?_ | refine And.intro (by decide) ?_ | refine And.intro (fun _ => ?_) (fun h => absurd h (by decide)) | refine And.intro (fun h => absurd h (by decide)) (fun _ => ?_) | refine ⟨_, _, o1.pu rfl rfl, ?_⟩ | refine ⟨_, _, o2.pu rfl rfl, ?_⟩ | refine ⟨_, _, c1.pu rfl rfl, ?_⟩ | fail); conv => whnf) | (refine And.intro (fun _ => ?_) (fun _ => ?_) <;> conv => whnf) | fail)
    all_goals try (refine Or.inl ?_; conv => whnf)
  all_goals refine ⟨[], ?_⟩
  repeat (any_goals (first | exact True.intro | exact rfl | with_reducible_and_instances rfl | exact (by kernel_rfl) | refine And.intro ?_ ?_))
  all_goals conv => whnf
end Go.Proofs.YtpnbpcdmiiakcaaDoor
/- label: the insertion sort (by name), of few labels. -/
namespace Go.Proofs.YtpnbpcdmiiakcaaDoor
set_option linter.unusedSimpArgs false
set_option linter.unusedVariables false
open Go.RowKit
set_option maxRecDepth 100000
def sinkR (x : Lab) : List Lab → List Lab
  | [] => [x]
  | a :: r => if x.1 < a.1 then a :: sinkR x r else x :: a :: r
def insR (l : List Lab) : List Lab := l.foldl (fun r x => sinkR x r) []
def insS (l : List Lab) : List Lab := (insR l).reverse
theorem sinkR_len (x : Lab) : ∀ r : List Lab, (sinkR x r).length = r.length + 1
  | [] => rfl
  | a :: r => by
    unfold sinkR
    split
    · simp [sinkR_len x r]
    · simp
theorem insR_len : ∀ (l r : List Lab), (l.foldl (fun r x => sinkR x r) r).length = l.length + r.length
  | [], r => by simp
  | x :: l, r => by rw [List.foldl_cons, insR_len l, sinkR_len]; simp; omega
theorem insR_succ {l : List Lab} {i : Nat} {x : Lab} (h : l[i]? = some x) : insR (l.take (i + 1)) = sinkR x (insR (l.take i)) := by
  unfold insR
  rw [foldl_take_succ h]
theorem ordB_neg {a b : Bt} : ordB a b < 0 ↔ a < b := by
  unfold ordB
  split
  · simp_all
  · split <;> simp_all
theorem set_mid {α : Type} (b c : α) (Z : List α) : ∀ (P : List α) (n : Nat), n = P.length → (P ++ b :: Z).set n c = P ++ c :: Z
  | [], n, h => by subst h; rfl
  | x :: P, n, h => by
    subst h
    show x :: (P ++ b :: Z).set P.length c = _
    rw [set_mid b c Z P _ rfl]; rfl
theorem swap_rows (p : List Lab) (a x : Lab) (Z : List Lab) : ((((p ++ [a] ++ x :: Z).map labR).set (p.length + 1) (labR a)).set p.length (labR x)) = (p ++ x :: a :: Z).map labR := by
  have e : (p ++ [a] ++ x :: Z).map labR = (p.map labR ++ [labR a]) ++ labR x :: Z.map labR := by simp
  rw [e, set_mid _ _ _ _ _ (by simp)]
  have e2 : (p.map labR ++ [labR a]) ++ labR a :: Z.map labR = p.map labR ++ labR a :: (labR a :: Z.map labR) := by simp
  rw [e2, set_mid _ _ _ _ _ (by simp)]
  simp
abbrev cmpF : AV := .fn (.func 30) [] []
set_option maxHeartbeats 4000000 in
theorem insSort_sat (l : List Lab) (hn : l.length ≤ 100) : Sat Tryd.prog 65 [.own 0, iA 0, iA l.length, cmpF] [.sl 2 (l.map labR)] (.tup []) [.sl 2 ((insS l).map labR)] := by
  cases hl0 : l with
  | nil =>
    refine sat_of_vc (T := tiOf Tryd.prog) (E := E0) Tryd.func65 rfl rfl hE0 hm0 rfl ?_
    conv => whnf
    iterate 2
      repeat' (first | exact True.intro | ((first | refine And.intro (fun _ => ?_) tf | refine And.intro ft (fun _ => ?_) | refine And.intro (by kernel_rfl) ?_ | refine And.intro (by decide) ?_ | refine And.intro (fun _ => ?_) (fun h => absurd h (by decide)) | refine And.intro (fun h => absurd h (by decide)) (fun _ => ?_) | fail); conv => whnf) | (refine And.intro (fun _ => ?_) (fun _ => ?_) <;> conv => whnf) | fail)
      all_goals try (refine Or.inl ?_; conv => whnf)
    refine ⟨Unit, fun _ => True, fun _ => ([(8, iA 1), (2, iA 0)], [.sl 2 []]), fun _ => 0, ⟨(), trivial, ?_⟩, ?_⟩
    · all_goals refine ⟨[], ?_⟩
      repeat (any_goals (first | exact True.intro | exact rfl | with_reducible_and_instances rfl | exact (by kernel_rfl) | refine And.intro ?_ ?_))
      all_goals conv => whnf
    intro _ _
    conv => whnf
    iterate 3
      repeat' (first | exact True.intro | ((first | refine And.intro (fun _ => ?_) tf | refine And.intro ft (fun _ => ?_) | refine And.intro (by kernel_rfl) ?_ | refine And.intro (by decide) ?_ | refine And.intro (fun _ => ?_) (fun h => absurd h (by decide)) | refine And.intro (fun h => absurd h (by decide)) (fun _ => ?_) | fail); conv => whnf) | (refine And.intro (fun _ => ?_) (fun _ => ?_) <;> conv => whnf) | fail)
      all_goals try (refine Or.inl ?_; conv => whnf)
    all_goals refine ⟨[], ?_⟩
    repeat (any_goals (first | exact True.intro | exact rfl | with_reducible_and_instances rfl | exact (by kernel_rfl) | refine And.intro ?_ ?_))
    all_goals conv => whnf
  | cons x0 l0 =>
  rw [← hl0]
  have hpos : 0 < l.length := by rw [hl0]; simp
  have hx0 : l[0]? = some x0 := by rw [hl0]; rfl
  clear hl0
  refine sat_of_vc (T := tiOf Tryd.prog) (E := E0) Tryd.func65 rfl rfl hE0 hm0 rfl ?_
  conv => whnf
  iterate 2
    repeat' (first | exact True.intro | ((first | refine And.intro (fun _ => ?_) tf | refine And.intro ft (fun _ => ?_) | refine And.intro (by kernel_rfl) ?_ | refine And.intro (by decide) ?_ | refine And.intro (fun _ => ?_) (fun h => absurd h (by decide)) | refine And.intro (fun h => absurd h (by decide)) (fun _ => ?_) | fail); conv => whnf) | (refine And.intro (fun _ => ?_) (fun _ => ?_) <;> conv => whnf) | fail)
    all_goals try (refine Or.inl ?_; conv => whnf)
  refine ⟨Nat, fun i => 1 ≤ i ∧ i ≤ l.length, fun i => ([(8, iA i), (3, cmpF), (2, iA l.length), (1, iA 0), (0, .own 0)], [.sl 2 (((insR (l.take i)).reverse ++ l.drop i).map labR)]), fun i => l.length - i, ⟨1, ⟨Nat.le_refl _, hpos⟩, ?_⟩, ?_⟩
  · all_goals refine ⟨[], ?_⟩
    repeat (any_goals (first | exact True.intro | exact rfl | with_reducible_and_instances rfl | exact (by kernel_rfl) | refine And.intro ?_ ?_))
    all_goals conv => whnf
    rw [show (insR (l.take 1)).reverse ++ l.drop 1 = l from by
      cases l with
      | nil => exact absurd hpos (by simp)
      | cons a r => rfl]
  rintro i ⟨hi1, hi⟩
  have hi : i ≤ l.length := hi
  have hR : (insR (l.take i)).length = i := by unfold insR; rw [insR_len]; simp; omega
  conv => whnf
  by_cases hlt : i < l.length
  · have hx : l[i]? = some l[i] := List.getElem?_eq_getElem hlt
    generalize l[i] = x at hx
    have hd := drop_cons hx
    have nx := insR_succ hx
    iterate 3
      repeat' (first | exact True.intro | ((first | refine And.intro (fun _ => ?_) tf | refine And.intro ft (fun _ => ?_) | refine And.intro (by kernel_rfl) ?_ | refine And.intro (by decide) ?_ | refine And.intro (fun _ => ?_) (fun h => absurd h (by decide)) | refine And.intro (fun h => absurd h (by decide)) (fun _ => ?_) | fail); conv => whnf) | (refine And.intro (fun _ => ?_) (fun _ => ?_) <;> conv => whnf) | fail)
      all_goals try (refine Or.inl ?_; conv => whnf)
    all_goals try (exfalso; simp only [decide_eq_true_eq, decide_eq_false_iff_not, Bool.not_eq_true', Bool.not_eq_false', Bool.not_eq_true, Bool.not_eq_false, beq_iff_eq, bne_iff_ne, beq_eq_false_iff_ne, bne_eq_false_iff_eq, ne_eq, Decidable.not_not] at *; first | omega | contradiction | (simp_all; done) | (simp_all; omega))
    refine ⟨List Lab × List Lab, fun y => y.1.length + y.2.length = i ∧ sinkR x (insR (l.take i)) = y.2.reverse ++ sinkR x y.1.reverse, fun y => ([(9, iA y.1.length), (8, iA i), (3, cmpF), (2, iA l.length), (1, iA 0), (0, .own 0)], [.sl 2 ((y.1 ++ x :: (y.2 ++ l.drop (i + 1))).map labR)]), fun y => y.1.length, ⟨((insR (l.take i)).reverse, []), ⟨by simp [hR], by simp⟩, ?_⟩, ?_⟩
    · all_goals refine ⟨[], ?_⟩
      repeat (any_goals (first | exact True.intro | exact rfl | with_reducible_and_instances rfl | exact (by kernel_rfl) | refine And.intro ?_ ?_))
      all_goals conv => whnf
      · show iA (i : Int) = iA (((insR (l.take i)).reverse.length : Nat) : Int)
        rw [List.length_reverse, hR]
      · rw [hd]; rfl
    rintro ⟨p, q⟩ ⟨hpq, hs⟩
    simp only at hpq hs
    conv => whnf
    have hle : p.length ≤ 100 := by omega
    have hgx : ((p ++ x :: (q ++ l.drop (i + 1))).map labR)[p.length]? = some (labR x) := map_get (by simp)
    have hlx : p.length < ((p ++ x :: (q ++ l.drop (i + 1))).map labR).length := (List.getElem?_eq_some_iff.1 hgx).1
    rcases List.eq_nil_or_concat p with hp | ⟨p', a, hp⟩
    · have hp0 : p.length = 0 := by rw [hp]; rfl
      iterate 5
        repeat' (first | exact True.intro | ((first | refine And.intro (fun _ => ?_) tf | refine And.intro ft (fun _ => ?_) | refine And.intro (by kernel_rfl) ?_ | refine And.intro (by decide) ?_ | refine And.intro (fun _ => ?_) (fun h => absurd h (by decide)) | refine And.intro (fun h => absurd h (by decide)) (fun _ => ?_) | fail); conv => whnf) | (refine And.intro (fun _ => ?_) (fun _ => ?_) <;> conv => whnf) | fail)
        all_goals try (refine Or.inl ?_; conv => whnf)
      all_goals try (exfalso; simp only [decide_eq_true_eq, decide_eq_false_iff_not, Bool.not_eq_true', Bool.not_eq_false', Bool.not_eq_true, Bool.not_eq_false, beq_iff_eq, bne_iff_ne, beq_eq_false_iff_ne, bne_eq_false_iff_eq, ne_eq, Decidable.not_not] at *; first | omega | contradiction | (simp_all; done) | (simp_all; omega))
      have e : (insR (l.take (i + 1))).reverse = x :: q := by rw [nx, hs, hp]; simp [sinkR]
      refine ⟨i + 1, ⟨by omega, hlt⟩, show l.length - (i + 1) < l.length - i by omega, ?_⟩
      all_goals refine ⟨[], ?_⟩
      repeat (any_goals (first | exact True.intro | exact rfl | with_reducible_and_instances rfl | exact (by kernel_rfl) | refine And.intro ?_ ?_))
      all_goals conv => whnf
      · exact wk1 (by omega)
      · show AObj.sl 2 ((p ++ x :: (q ++ l.drop (i + 1))).map labR) = _
        rw [e, hp]; rfl
    · rw [List.concat_eq_append] at hp
      have hpl : p.length = p'.length + 1 := by rw [hp]; simp
      have hga : ((p ++ x :: (q ++ l.drop (i + 1))).map labR)[p.length - 1]? = some (labR a) := map_get (by rw [hp]; simp)
      have hla : p.length - 1 < ((p ++ x :: (q ++ l.drop (i + 1))).map labR).length := by omega
      have hs1 := sub_one (by omega : 0 < p.length) (by omega)
      have c1 := cmpNames_sat x a
      have hga2 : (((p ++ x :: (q ++ l.drop (i + 1))).map labR).set p.length (labR a))[p.length - 1]? = some (labR a) := by rw [List.getElem?_set_ne (by omega)]; exact hga
      have hla2 : p.length - 1 < (((p ++ x :: (q ++ l.drop (i + 1))).map labR).set p.length (labR a)).length := by rw [List.length_set]; exact hla
      iterate 7
        repeat' (first | exact True.intro | ((first | refine ⟨p.length, rfl, hlx, ?_⟩ | refine ⟨_, hgx, ?_⟩ | refine ⟨p.length - 1, hs1, hla, ?_⟩ | refine ⟨_, hga, ?_⟩ | refine ⟨Nat.le_refl 2, _, _, hgx, rfl, ?_⟩ | refine ⟨p.length - 1, hs1, hla2, ?_⟩ | refine ⟨Nat.le_refl 2, _, _, hga2, rfl, ?_⟩ | refine And.intro (fun _ => ?_) tf | refine And.intro ft (fun _ => ?_) | refine And.intro (by kernel_rfl) ?_ | refine And.intro (by decide) ?_ | refine And.intro (fun _ => ?_) (fun h => absurd h (by decide)) | refine And.intro (fun h => absurd h (by decide)) (fun _ => ?_) | refine ⟨_, _, c1.pu rfl rfl, ?_⟩ | fail); conv => whnf) | (refine And.intro (fun _ => ?_) (fun _ => ?_) <;> conv => whnf) | fail)
        all_goals try (refine Or.inl ?_; conv => whnf)
      all_goals try (exfalso; simp only [decide_eq_true_eq, decide_eq_false_iff_not, Bool.not_eq_true', Bool.not_eq_false', Bool.not_eq_true, Bool.not_eq_false, beq_iff_eq, bne_iff_ne, beq_eq_false_iff_ne, bne_eq_false_iff_eq, ne_eq, Decidable.not_not] at *; first | omega | contradiction | (simp_all; done) | (simp_all; omega))
      · have hlt' : x.1 < a.1 := ordB_neg.1 (of_decide_eq_true ‹decide (ordB x.1 a.1 < 0) = true›)
        refine ⟨(p', a :: q), ⟨?_, ?_⟩, show p'.length < p.length by omega, ?_⟩
        · show p'.length + (a :: q).length = i
          rw [List.length_cons]; omega
        · show _ = (a :: q).reverse ++ sinkR x p'.reverse
          rw [hs, hp]
          simp [sinkR, hlt']
        all_goals refine ⟨[], ?_⟩
        repeat (any_goals (first | exact True.intro | exact rfl | with_reducible_and_instances rfl | exact (by kernel_rfl) | refine And.intro ?_ ?_))
        all_goals conv => whnf
        · show iA (IntKind.i64.wrap ((p.length : Int) - 1)) = iA (p'.length : Int)
          rw [hs1, hpl]; rfl
        · show AObj.sl 2 ((((p ++ x :: (q ++ l.drop (i + 1))).map labR).set p.length (labR a)).set (p.length - 1) (labR x)) = AObj.sl 2 ((p' ++ x :: (a :: q ++ l.drop (i + 1))).map labR)
          rw [hpl, Nat.add_sub_cancel, hp, swap_rows]; rfl
      · have hge : ¬ x.1 < a.1 := fun h => absurd (ordB_neg.2 h) (of_decide_eq_false ‹decide (ordB x.1 a.1 < 0) = false›)
        have e : (insR (l.take (i + 1))).reverse = p ++ x :: q := by rw [nx, hs, hp]; simp [sinkR, hge]
        refine ⟨i + 1, ⟨by omega, hlt⟩, show l.length - (i + 1) < l.length - i by omega, ?_⟩
        all_goals refine ⟨[], ?_⟩
        repeat (any_goals (first | exact True.intro | exact rfl | with_reducible_and_instances rfl | exact (by kernel_rfl) | refine And.intro ?_ ?_))
        all_goals conv => whnf
        · exact wk1 (by omega)
        · show AObj.sl 2 ((p ++ x :: (q ++ l.drop (i + 1))).map labR) = _
          rw [e]; simp
  · iterate 3
      repeat' (first | exact True.intro | ((first | refine And.intro (fun _ => ?_) tf | refine And.intro ft (fun _ => ?_) | refine And.intro (by kernel_rfl) ?_ | refine And.intro (by decide) ?_ | refine And.intro (fun _ => ?_) (fun h => absurd h (by decide)) | refine And.intro (fun h => absurd h (by decide)) (fun _ => ?_) | fail); conv => whnf) | (refine And.intro (fun _ => ?_) (fun _ => ?_) <;> conv => whnf) | fail)
      all_goals try (refine Or.inl ?_; conv => whnf)
    all_goals try (exfalso; simp only [decide_eq_true_eq, decide_eq_false_iff_not, Bool.not_eq_true', Bool.not_eq_false', Bool.not_eq_true, Bool.not_eq_false, beq_iff_eq, bne_iff_ne, beq_eq_false_iff_ne, bne_eq_false_iff_eq, ne_eq, Decidable.not_not] at *; first | omega | contradiction | (simp_all; done) | (simp_all; omega))
    all_goals refine ⟨[], ?_⟩
    repeat (any_goals (first | exact True.intro | exact rfl | with_reducible_and_instances rfl | exact (by kernel_rfl) | refine And.intro ?_ ?_))
    all_goals conv => whnf
    show AObj.sl 2 (((insR (l.take i)).reverse ++ l.drop i).map labR) = _
    rw [List.drop_of_length_le (by omega), List.take_of_length_le (by omega), List.append_nil]; rfl
/-! ### the sort -/
theorem bitsLen_sat (x : Int) (h0 : 0 ≤ x) (h1 : x ≤ 1000) : Sat Tryd.prog 52 [.d (.v (.int .u64 x))] [] (iA (Lib.bitLen x.toNat)) [] :=
  .of_same' (by repeat constructor) (by repeat constructor) fun w => Tryd.bits_Len x w h0 (by omega)
theorem pdq_sat (l : List Lab) (hn : l.length ≤ 12) (z : Int) : Sat Tryd.prog 51 [.own 0, iA 0, iA l.length, iA z, cmpF] [.sl 2 (l.map labR)] (.tup []) [.sl 2 ((insS l).map labR)] := by
  have i1 := insSort_sat l (by omega)
  refine sat_of_vc (T := tiOf Tryd.prog) (E := E0) Tryd.func51 rfl rfl hE0 hm0 rfl ?_
  conv => whnf
  iterate 2
    repeat' (first | exact True.intro | ((first | refine And.intro (fun _ => ?_) tf | refine And.intro ft (fun _ => ?_) | refine And.intro (by kernel_rfl) ?_ | refine And.intro (by decide) ?_ | refine And.intro (fun _ => ?_) (fun h => absurd h (by decide)) | refine And.intro (fun h => absurd h (by decide)) (fun _ => ?_) | fail); conv => whnf) | (refine And.intro (fun _ => ?_) (fun _ => ?_) <;> conv => whnf) | fail)
    all_goals try (refine Or.inl ?_; conv => whnf)
  refine ⟨Unit, fun _ => True, fun _ => ([(4, cmpF), (2, iA l.length), (1, iA 0), (0, .own 0)], [.sl 2 (l.map labR)]), fun _ => 0, ⟨(), trivial, ?_⟩, ?_⟩
  · all_goals refine ⟨[], ?_⟩
    repeat (any_goals (first | exact True.intro | exact rfl | with_reducible_and_instances rfl | exact (by kernel_rfl) | refine And.intro ?_ ?_))
    all_goals conv => whnf
  intro _ _
  have hw : decide (IntKind.i64.wrap ((l.length : Int) - 0) ≤ 12) = true := by
    rw [Int.sub_zero, wi (by omega) (by omega)]
    exact decide_eq_true (by omega)
  conv => whnf
  repeat' (first | exact True.intro | ((first | refine And.intro (fun _ => ?_) tf | refine And.intro ft (fun _ => ?_) | refine And.intro (by kernel_rfl) ?_ | refine And.intro (by decide) ?_ | refine And.intro (fun _ => ?_) (fun h => absurd h (by decide)) | refine And.intro (fun h => absurd h (by decide)) (fun _ => ?_) | fail); conv => whnf) | (refine And.intro (fun _ => ?_) (fun _ => ?_) <;> conv => whnf) | fail)
  all_goals try (refine Or.inl ?_; conv => whnf)
  all_goals try exact (bnl hw ‹_›).elim
  iterate 3
    repeat' (first | exact True.intro | ((first | refine And.intro (fun _ => ?_) tf | refine And.intro ft (fun _ => ?_) | refine And.intro (by kernel_rfl) ?_ | refine And.intro (by decide) ?_ | refine And.intro (fun _ => ?_) (fun h => absurd h (by decide)) | refine And.intro (fun h => absurd h (by decide)) (fun _ => ?_) | refine ⟨_, _, i1.at1 0 rfl rfl rfl, ?_⟩ | fail); conv => whnf) | (refine And.intro (fun _ => ?_) (fun _ => ?_) <;> conv => whnf) | fail)
    all_goals try (refine Or.inl ?_; conv => whnf)
  all_goals try exact (bnl hw ‹_›).elim
  all_goals refine ⟨[], ?_⟩
  repeat (any_goals (first | exact True.intro | exact rfl | with_reducible_and_instances rfl | exact (by kernel_rfl) | refine And.intro ?_ ?_))
  all_goals conv => whnf
theorem sortF_sat (l : List Lab) (hn : l.length ≤ 12) : Sat Tryd.prog 29 [.own 0, cmpF] [.sl 2 (l.map labR)] (.tup []) [.sl 2 ((insS l).map labR)] := by
  have hl : (l.map labR).length = l.length := List.length_map _
  have b1 := bitsLen_sat l.length (by omega) (by omega)
  have p1 := pdq_sat l hn
  rw [← hl] at b1 p1
  have hu : IntKind.u64.wrap ((l.map labR).length : Int) = ((l.map labR).length : Int) := by
    show ((l.map labR).length : Int) % 18446744073709551616 = _
    rw [hl]
    exact Int.emod_eq_of_lt (by omega) (by omega)
  rw [← hu] at b1
  have p1 := p1 (Lib.bitLen (IntKind.u64.wrap ((l.map labR).length : Int)).toNat)
  refine sat_of_vc (T := tiOf Tryd.prog) (E := E0) Tryd.func29 rfl rfl hE0 hm0 rfl ?_
  conv => whnf
  iterate 3
    repeat' (first | exact True.intro | ((first | refine And.intro (fun _ => ?_) tf | refine And.intro ft (fun _ => ?_) | refine And.intro (by kernel_rfl) ?_ | refine And.intro (by decide) ?_ | refine And.intro (fun _ => ?_) (fun h => absurd h (by decide)) | refine And.intro (fun h => absurd h (by decide)) (fun _ => ?_) | refine ⟨_, _, b1.pu rfl rfl, ?_⟩ | refine ⟨_, _, p1.at1 0 rfl rfl rfl, ?_⟩ | fail); conv => whnf) | (refine And.intro (fun _ => ?_) (fun _ => ?_) <;> conv => whnf) | fail)
    all_goals try (refine Or.inl ?_; conv => whnf)
  all_goals refine ⟨[], ?_⟩
  repeat (any_goals (first | exact True.intro | exact rfl | with_reducible_and_instances rfl | exact (by kernel_rfl) | refine And.intro ?_ ?_))
  all_goals conv => whnf
end Go.Proofs.YtpnbpcdmiiakcaaDoor
/- What the statements share: CopyBytes, SameBytes; and bytes.Clone. -/
namespace Go.Proofs.YtpnbpcdmiiakcaaDoor
open Go.RowKit
set_option linter.unusedVariables false
set_option linter.unusedSimpArgs false

theorem Tryd.info8 : (Tryd.prog.info? 5).map (fun i => (i.zero, i.size, i.bytes)) = some (some (.int .u8 0), 1, 1) := by kernel_rfl

theorem RdB.lit (w : World) (l : List UInt8) (e : TypeId) (fz : Nat × Nat) (n : Nat) (hl : l.length = n) : RdB (w.alloc (.cells (l.map bv).toArray e fz)) (w.heap.size + 1) (some ⟨w.heap.size, 0, none⟩) n l :=
  Rd.litm w (l.map bv).toArray e fz n 1 (by simpa using hl)

theorem clone_any (A : Option Addr) (n c : Nat) (l : List UInt8) (w : World) (hr : RdB w w.heap.size A n l) (hn : n ≤ 140737488351232) :
    Calls Tryd.prog 46 #[.slice A n c] w fun e w' => ∃ v, e = .returned v ∧ Ow w' w.heap.size 5 1 v n (l.map bv) ∧ Below w.heap.size w w' := by
  have hlen := RdB.len hr
  cases A with
  | none =>
    have h0 : n = 0 := by
      rcases Nat.eq_zero_or_pos n with h | h
      · exact h
      · obtain ⟨b, off, h, _⟩ := hr.at_ h
        cases h
    subst h0
    have hl : l = [] := List.eq_nil_of_length_eq_zero hlen
    subst hl
    refine (Tryd.bytes_Clone_nil 0 c w).mono ?_
    rintro e w' ⟨rfl, rfl⟩
    exact ⟨_, rfl, Ow.nil _ _ _ _, Below.refl _ _⟩
  | some a =>
    refine (Tryd.bytes_Clone_at a n c (l.map fun x => (x.toNat : Int)) w (by simpa using hlen) (by omega) ?_).mono ?_
    · intro i hi
      obtain ⟨b, off, h, hb, hc⟩ := RdB.cell hr hi
      injection h with h
      subst h
      rw [Addr.add_lit, hc]
      have : i < l.length := by omega
      simp [List.getD, List.getElem?_eq_getElem this]
    · rintro e w' ⟨v, rfl, hown, _, hb⟩
      refine ⟨v, rfl, ?_, hb⟩
      have := Ow.of_own hown
      rw [List.map_map] at this
      exact this

end Go.Proofs.YtpnbpcdmiiakcaaDoor
/- Numbers as bytes, and back: plain arithmetic. -/
namespace Go.Proofs.YtpnbpcdmiiakcaaDoor
set_option linter.unusedSimpArgs false
set_option linter.unusedVariables false

/-- What so many bytes more can hold: 2 * 128^f. -/
def bnd : Nat → Nat
  | 0 => 2
  | f + 1 => 128 * bnd f
def encF : Nat → Nat → List UInt8
  | 0, u => [UInt8.ofNat u]
  | f + 1, u => if u < 128 then [UInt8.ofNat u] else UInt8.ofNat (128 + u % 128) :: encF f (u / 128)
/-- The bytes of a number. -/
def enc (u : Nat) : List UInt8 := encF 9 u
theorem bnd9 : bnd 9 = 18446744073709551616 := rfl
theorem encF_small {f u : Nat} (h : u < 128) : encF f u = [UInt8.ofNat u] := by
  cases f with
  | zero => rfl
  | succ f => simp [encF, h]
theorem encF_big {f u : Nat} (h : ¬ u < 128) : encF (f + 1) u = UInt8.ofNat (128 + u % 128) :: encF f (u / 128) := by simp [encF, h]
theorem encF_len : ∀ (f u : Nat), 1 ≤ (encF f u).length ∧ (encF f u).length ≤ f + 1
  | 0, u => by simp [encF]
  | f + 1, u => by
    by_cases h : u < 128
    · rw [encF_small h]; simp
    · rw [encF_big h]
      have := encF_len f (u / 128)
      simp; omega

/-! ### reading -/
/-- From place i on, so much read: the number, its size, the fault (10: not in form, 15: at its end). -/
def decF (i acc : Nat) : List UInt8 → Nat × Nat × Nat
  | [] => (0, 0, 15)
  | c :: r => if (c.toNat = 0 ∧ 0 < i) ∨ (1 < c.toNat ∧ i = 9) then (0, 0, 10) else if c.toNat < 128 then (acc + c.toNat * 128 ^ i, i + 1, 0) else decF (i + 1) (acc + c.toNat % 128 * 128 ^ i) r
def dec (l : List UInt8) : Nat × Nat × Nat := decF 0 0 l

theorem ofNat_toNat {u : Nat} (h : u < 256) : (UInt8.ofNat u).toNat = u := by rw [UInt8.toNat_ofNat']; exact Nat.mod_eq_of_lt h
theorem dec_bounds : ∀ (l : List UInt8) (i acc v s e : Nat), i ≤ 9 → acc < 128 ^ i → decF i acc l = (v, s, e) → v < 18446744073709551616 ∧ s ≤ i + l.length ∧ (e = 0 ∨ e = 10 ∨ e = 15) ∧ (e ≠ 0 → v = 0 ∧ s = 0) ∧ s ≤ 10
  | [], i, acc, v, s, e, hi, ha, h => by
    simp only [decF, Prod.mk.injEq] at h
    obtain ⟨rfl, rfl, rfl⟩ := h
    simp
  | c :: r, i, acc, v, s, e, hi, ha, h => by
    have hc := c.toNat_lt
    simp only [decF] at h
    by_cases h1 : (c.toNat = 0 ∧ 0 < i) ∨ (1 < c.toNat ∧ i = 9)
    · rw [if_pos h1] at h
      simp only [Prod.mk.injEq] at h
      obtain ⟨rfl, rfl, rfl⟩ := h
      simp
    · rw [if_neg h1] at h
      by_cases h2 : c.toNat < 128
      · rw [if_pos h2] at h
        simp only [Prod.mk.injEq] at h
        obtain ⟨rfl, rfl, rfl⟩ := h
        refine ⟨?_, by simp, by simp, by simp, by omega⟩
        have hp : 128 ^ i ≤ 128 ^ 9 := Nat.pow_le_pow_right (by omega) hi
        rcases Nat.eq_or_lt_of_le hi with h9 | h9
        · subst h9
          have : c.toNat ≤ 1 := by omega
          have h3 : c.toNat * 128 ^ 9 ≤ 1 * 128 ^ 9 := Nat.mul_le_mul_right _ this
          have h4 : (128 : Nat) ^ 9 = 9223372036854775808 := rfl
          omega
        · have hp : 128 ^ i ≤ 128 ^ 8 := Nat.pow_le_pow_right (by omega) (by omega)
          have h3 : c.toNat * 128 ^ i ≤ 127 * 128 ^ 8 := Nat.mul_le_mul (by omega) hp
          have h4 : (128 : Nat) ^ 8 = 72057594037927936 := rfl
          omega
      · rw [if_neg h2] at h
        have h9 : i ≠ 9 := by omega
        have ha' : acc + c.toNat % 128 * 128 ^ i < 128 ^ (i + 1) := by
          rw [Nat.pow_succ]
          have h3 : c.toNat % 128 * 128 ^ i ≤ 127 * 128 ^ i := Nat.mul_le_mul_right _ (by omega)
          omega
        have := dec_bounds r (i + 1) _ v s e (by omega) ha' h
        simp only [List.length_cons]
        omega
end Go.Proofs.YtpnbpcdmiiakcaaDoor
/- code.put, code.first, code.count. -/
namespace Go.Proofs.YtpnbpcdmiiakcaaDoor
open Go.RowKit
set_option linter.unusedVariables false
set_option linter.unusedSimpArgs false

theorem or128 : ∀ n : Nat, n < 256 → n ||| 128 = 128 + n % 128 := by decide +kernel
theorem spell_more (u : Nat) : bits BinOp.or IntKind.u8 ((u : Int) % 256) 128 = (((UInt8.ofNat (128 + u % 128)).toNat : Nat) : Int) := by
  have h := u8_or_nat (u % 256) 128 (by omega) (by omega)
  rw [or128 _ (by omega)] at h
  have e : (((u % 256 : Nat)) : Int) = (u : Int) % 256 := by omega
  rw [e] at h
  rw [UInt8.toNat_ofNat', Nat.mod_eq_of_lt (by omega)]
  rw [show 128 + u % 128 = 128 + u % 256 % 128 from by omega]
  exact h
theorem spell_last (u : Nat) (h : u < 128) : (u : Int) = (((UInt8.ofNat u).toNat : Nat) : Int) := by rw [ofNat_toNat (by omega)]
set_option maxRecDepth 100000 in
theorem put_any (v : Value) (n : Nat) (l : List UInt8) (u lo : Nat) (w : World) (hown : Ow w lo 5 1 v n (l.map bv)) (hlo : lo ≤ w.heap.size) (hu : u < 18446744073709551616) (hn : n ≤ 70368744175616) :
    Calls Tryd.prog 57 #[v, .int .u64 u] w fun e w' => ∃ v', e = .returned v' ∧ Ow w' lo 5 1 v' (n + (enc u).length) ((l ++ enc u).map bv) ∧ Below lo w w' := by
  obtain ⟨i0, hi0, hz0, hz1, hz2⟩ := info_parts Tryd.info8
  have hl := hown.1
  simp only [List.length_map, Nat.mul_one] at hl
  have HU := hide hu
  clear hu
  go_enter Tryd.func57, Tryd.ntmps57
  go_wp2
  go_loopw [0, 1] (fun v x wr => ∃ (f q m : Nat) (acc : List UInt8), x = .int .u64 q ∧ q < bnd f ∧ f ≤ 9 ∧ m + f + 1 ≤ n + 10 ∧ Ow wr lo 5 1 v m (acc.map bv) ∧ Hid (acc ++ encF f q = l ++ enc u) ∧ Below lo w wr) (fun _ x _ => (intOf x).toNat)
  case atStart => exact ⟨9, u, n, l, rfl, by rw [bnd9]; exact HU.out, by omega, by omega, hown, hide rfl, Below.refl _ _⟩
  case round =>
    obtain ⟨f, q, m, acc, rfl, hq, hf, hm, own, HE, hb⟩ := hrel
    by_cases h : q < 128
    · have he := HE.out
      rw [encF_small h] at he
      have HE2 := hide he
      clear he
      have hsp := spell_last q h
      have HS := hide hsp
      clear hsp
      have hcell : Rd (wr.alloc (.cells #[.int .u8 q] 5)) (wr.heap.size + 1) 1 (some ⟨wr.heap.size, 0, none⟩) 1 ([UInt8.ofNat q].map bv) := by
        rw [HS.out]
        exact RdB.lit wr [UInt8.ofNat q] 5 (0, 0) 1 rfl
      go_wp2_with (at_builtin; refine wpList_append_ow _ rfl (.tmp 15) (.tmp 18) _ rfl lo 5 i0 _ 1 1 Tryd.underlying41 hi0 hz0 hz1 hz2 rfl (by omega) _ m (acc.map bv) rfl (own.alloc _) (wr.heap.size + 1) (some ⟨wr.heap.size, 0, none⟩) 1 1 _ rfl hcell (bvs_one _) (by simp only [maxLen]; omega) (by omega) (by have := hb.size; simp; omega) ?_; intro v1 w1 hown1 hg1 hat1 hnn1)
      go_ret
      have hsum : m + 1 = n + (enc u).length := by
        have h1 := congrArg List.length HE2.out
        have h2 := own.1
        simp only [List.length_append, List.length_cons, List.length_nil, List.length_map, Nat.mul_one] at h1 h2
        omega
      refine ⟨_, rfl, ?_, (hb.alloc (by have := hb.size; omega) _).grown hg1 (by have := hb.size; simp; omega) (fun k hk => own.lt k hk)⟩
      rw [← HE2.out, ← hsum, List.map_append]
      exact hown1
    · match f with
      | 0 => simp only [bnd] at hq; omega
      | f + 1 =>
        have he := HE.out
        rw [encF_big h] at he
        have HE2 := hide he
        clear he HE
        have HQ := hide hq
        clear hq
        have hsp := spell_more q
        have hcell : Rd (wr.alloc (.cells #[.int .u8 ((UInt8.ofNat (128 + q % 128)).toNat : Nat)] 5)) (wr.heap.size + 1) 1 (some ⟨wr.heap.size, 0, none⟩) 1 ([UInt8.ofNat (128 + q % 128)].map bv) :=
          RdB.lit wr [UInt8.ofNat (128 + q % 128)] 5 (0, 0) 1 rfl
        generalize UInt8.ofNat (128 + q % 128) = y at hsp hcell HE2
        go_wp2_with (at_builtin; refine wpList_append_ow _ rfl (.tmp 9) (.tmp 13) _ rfl lo 5 i0 _ 1 1 Tryd.underlying41 hi0 hz0 hz1 hz2 rfl (by omega) _ m (acc.map bv) rfl (own.alloc _) (wr.heap.size + 1) (some ⟨wr.heap.size, 0, none⟩) 1 1 _ rfl hcell (bvs_one _) (by simp only [maxLen]; omega) (by omega) (by have := hb.size; simp; omega) ?_; intro v1 w1 hown1 hg1 hat1 hnn1)
        go_roundw
        case rel => exact ⟨f, q / 128, m + 1, acc ++ [y], by go_num, by have := HQ.out; simp only [bnd] at this; omega, by omega, by omega, by rw [List.map_append]; exact hown1, hide (by rw [List.append_assoc]; exact HE2.out), (hb.alloc (by have := hb.size; omega) _).grown hg1 (by have := hb.size; simp; omega) (fun k hk => own.lt k hk)⟩
        case measure => simp [intOf]; omega
end Go.Proofs.YtpnbpcdmiiakcaaDoor
/- Numbers as values: two small words. -/
namespace Go.Proofs.YtpnbpcdmiiakcaaDoor
set_option linter.unusedSimpArgs false
set_option linter.unusedVariables false
open Go.RowKit
def i64v (x : Int) : Value := .int .i64 x
theorem u64_wrap (n : Int) : IntKind.u64.wrap n = n % 18446744073709551616 := by simp [IntKind.wrap, IntKind.bits, IntKind.signed]
theorem Rd.get {w : World} {B n : Nat} {A : Option Addr} {α : Type} {f : α → Value} {l : List α} (h : Rd w B 1 A n (l.map f)) {k : Nat} (hk : k < n) :
    ∃ b off, A = some ⟨b, off, none⟩ ∧ b < B ∧ ∃ x, l[k]? = some x ∧ w.cell? ⟨b, off + k, none⟩ = some (f x) := by
  obtain ⟨b, off, e, hb, hc⟩ := h.at_ hk
  have hl := h.1
  simp only [List.length_map, Nat.mul_one] at hl
  refine ⟨b, off, e, hb, l[k], List.getElem?_eq_getElem (by omega), ?_⟩
  rw [hc k (by simp; omega)]
  simp
theorem Rd.len {w : World} {B n : Nat} {A : Option Addr} {α : Type} {f : α → Value} {l : List α} (h : Rd w B 1 A n (l.map f)) : l.length = n := by
  have := h.1; simpa using this
end Go.Proofs.YtpnbpcdmiiakcaaDoor
/- code.first, code.count. -/
namespace Go.Proofs.YtpnbpcdmiiakcaaDoor
open Go.RowKit
set_option linter.unusedVariables false
set_option linter.unusedSimpArgs false

theorem pow7 (k : Nat) : (2 : Nat) ^ (7 * k) = 128 ^ k := by rw [Nat.pow_mul]
theorem spell_gather (a m k : Nat) (ha : a < 128 ^ k) (hk : k ≤ 9) (hm : m < 128) (h9 : k = 9 → m ≤ 1) :
    bits BinOp.or IntKind.u64 (a : Int) (IntKind.u64.wrap ((m : Int) * 2 ^ (7 * k))) = ((a + m * 128 ^ k : Nat) : Int) ∧ a + m * 128 ^ k < 18446744073709551616 := by
  have hp : (2 : Nat) ^ (7 * k) = 128 ^ k := pow7 k
  have hle : (128 : Nat) ^ k ≤ 128 ^ 9 := Nat.pow_le_pow_right (by omega) hk
  have h9' : (128 : Nat) ^ 9 = 9223372036854775808 := rfl
  have hb : a + m * 128 ^ k < 18446744073709551616 ∧ m * 128 ^ k < 18446744073709551616 := by
    rcases Nat.eq_or_lt_of_le hk with h | h
    · subst h
      have h3 : m * 128 ^ 9 ≤ 1 * 128 ^ 9 := Nat.mul_le_mul_right _ (h9 rfl)
      omega
    · have h8 : (128 : Nat) ^ k ≤ 128 ^ 8 := Nat.pow_le_pow_right (by omega) (by omega)
      have h8' : (128 : Nat) ^ 8 = 72057594037927936 := rfl
      have h3 : m * 128 ^ k ≤ 127 * 128 ^ 8 := Nat.mul_le_mul (by omega) h8
      omega
  refine ⟨?_, hb.1⟩
  have e : (m : Int) * 2 ^ (7 * k) = ((m * 128 ^ k : Nat) : Int) := by rw [← hp]; simp
  rw [e, u64_wrap, show ((m * 128 ^ k : Nat) : Int) % 18446744073709551616 = ((m * 128 ^ k : Nat) : Int) from by omega]
  rw [u64_or_nat _ _ (by omega) (by omega)]
  congr 1
  have := Nat.two_pow_add_eq_or_of_lt (b := a) (i := 7 * k) (by rw [hp]; exact ha) m
  rw [hp] at this
  rw [Nat.or_comm, Nat.mul_comm m, ← this, Nat.add_comm]

set_option maxHeartbeats 400000 in
set_option maxRecDepth 100000 in
theorem first_any (A : Option Addr) (n c : Nat) (l : List UInt8) (w : World) (hr : RdB w w.heap.size A n l) (hn : n ≤ 140737488351232) :
    Calls Tryd.prog 82 #[.slice A n c] w fun e w' => e = .returned (.tuple #[.int .u64 (dec l).1, .int .i64 (dec l).2.1, .int .i64 (dec l).2.2]) ∧ w = w' := by
  have hlen := RdB.len hr
  have HLEN := hide hlen
  clear hlen
  go_enter Tryd.func82, Tryd.ntmps82
  go_wp2
  go_loop [2, 3, 4, 5, 6, 7, 10] (fun s2 s3 s4 acc _ _ i => ∃ k a : Nat, k ≤ n ∧ k ≤ 9 ∧ i = .int .i64 k ∧ acc = .int .u64 a ∧ s2 = .int .u64 0 ∧ s3 = .int .i64 0 ∧ s4 = .int .i64 0 ∧ Hid (decF k a (l.drop k) = dec l) ∧ Hid (a < 128 ^ k)) (fun _ _ _ _ _ _ i => n - (intOf i).toNat)
  case atStart => exact ⟨0, 0, by omega, by omega, rfl, rfl, rfl, rfl, rfl, hide rfl, hide (by simp)⟩
  case round =>
    obtain ⟨k, a, hk, hk10, rfl, rfl, rfl, rfl, rfl, HD, HA⟩ := hrel
    by_cases hk1 : k < n
    · obtain ⟨b, off, rfl, hb, hc⟩ := RdB.cell hr hk1
      have hkl : k < l.length := by rw [HLEN.out]; exact hk1
      have hd := HD.out
      rw [List.drop_eq_getElem_cons hkl] at hd
      have HL := hide hkl
      clear HD
      generalize l[k] = x at hc hd
      have hx := x.toNat_lt
      simp only [decF] at hd
      have HD := hide hd
      clear hd hkl
      by_cases h0 : x.toNat = 0
      · have e0 : ((x.toNat : Int) == 0) = true := by rw [h0]; rfl
        by_cases hkk : 0 < k
        · have HR := HD.out
          rw [if_pos (.inl ⟨h0, hkk⟩)] at HR
          have HX := hide HR
          have h1k := hide h0
          clear h0 HR HD
          go_wp2
          go_ret3
          rw [← HX.out]
          exact ⟨rfl, rfl⟩
        · have HR := HD.out
          rw [if_neg (by omega), if_pos (by omega)] at HR
          have HX := hide HR
          have hlt : x.toNat < 128 := by omega
          have hg := (spell_gather a x.toNat k HA.out (by omega) hlt (by omega)).1
          have hx1 : x.toNat ≤ 1 := by omega
          have HG := hide hg
          clear h0 HR HD hg
          go_wp2
          go_ret3
          rw [← HX.out]
          exact ⟨by rw [← HG.out, show ((x.toNat : Int) % 128) = (x.toNat : Int) from by omega]; simp, rfl⟩
      · have e0 : ((x.toNat : Int) == 0) = false := by simp; omega
        have E0 := hide h0
        clear h0
        by_cases h128 : x.toNat < 128
        · by_cases h91 : k = 9 ∧ 1 < x.toNat
          · obtain ⟨h9, h1⟩ := h91
            have e9 : ((k : Int) == 9) = true := by rw [h9]; rfl
            have HR := HD.out
            rw [if_pos (.inr ⟨h1, h9⟩)] at HR
            have HX := hide HR
            clear h9 HR HD
            go_wp2
            go_ret3
            rw [← HX.out]
            exact ⟨rfl, rfl⟩
          · have HR := HD.out
            rw [if_neg (by have := E0.out; omega), if_pos h128] at HR
            have HX := hide HR
            have hg := (spell_gather a x.toNat k HA.out (by omega) h128 (by omega)).1
            have HG := hide hg
            clear HR HD hg
            by_cases h9 : k = 9
            · have e9 : ((k : Int) == 9) = true := by rw [h9]; rfl
              have h1 : x.toNat ≤ 1 := by omega
              clear h9 h91
              go_wp2
              go_ret3
              rw [← HX.out]
              exact ⟨by rw [← HG.out, show ((x.toNat : Int) % 128) = (x.toNat : Int) from by omega]; simp, rfl⟩
            · have e9 : ((k : Int) == 9) = false := by simp; omega
              clear h91
              by_cases h1 : 1 < x.toNat
              all_goals
                go_wp2
                go_ret3
                rw [← HX.out]
                exact ⟨by rw [← HG.out, show ((x.toNat : Int) % 128) = (x.toNat : Int) from by omega]; simp, rfl⟩
        · by_cases h9 : k = 9
          · have e9 : ((k : Int) == 9) = true := by rw [h9]; rfl
            have HR := HD.out
            rw [if_pos (.inr ⟨by omega, h9⟩)] at HR
            have HX := hide HR
            have h1 : 1 < x.toNat := by omega
            clear h9 HR HD
            go_wp2
            go_ret3
            rw [← HX.out]
            exact ⟨rfl, rfl⟩
          · have e9 : ((k : Int) == 9) = false := by simp; omega
            have HR := HD.out
            rw [if_neg (by have := E0.out; omega), if_neg h128] at HR
            have HX := hide HR
            have h1 : 1 < x.toNat := by omega
            obtain ⟨hg, hg2⟩ := spell_gather a (x.toNat % 128) k HA.out (by omega) (by omega) (by omega)
            have HG := hide hg
            clear HR HD hg hg2
            go_wp2
            go_round
            case rel =>
              refine ⟨k + 1, a + x.toNat % 128 * 128 ^ k, by omega, by omega, by go_num, ?_, rfl, rfl, rfl, HX, hide ?_⟩
              · rw [← HG.out]; simp
              · have := HA.out
                rw [Nat.pow_succ]
                have h3 : x.toNat % 128 * 128 ^ k ≤ 127 * 128 ^ k := Nat.mul_le_mul_right _ (by omega)
                omega
            case measure => simp [intOf]; omega
    · go_wp2
      go_ret3
      have h := HD.out
      rw [List.drop_of_length_le (by have := HLEN.out; omega)] at h
      rw [← h]
      exact ⟨rfl, rfl⟩
end Go.Proofs.YtpnbpcdmiiakcaaDoor
