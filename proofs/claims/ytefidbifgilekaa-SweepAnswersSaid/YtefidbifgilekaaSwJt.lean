/- SweepAnswers: every Votes, Best, Agree and Without answers what the document says; for all gaps. -/
import Derived.Test.YtefidbifgilekaaM8
namespace Go.Proofs.Ytefidbifgilekaa
set_option linter.unusedSimpArgs false
set_option linter.unusedVariables false
open Go.ChangeShapes Go.WideShapes Go.ChangeAt Go.RowKit
set_option maxRecDepth 100000 in
theorem answers_lifted (os : Os) (started : os.Started) (H : Type) (enc : TypeId × Value → H) :
    ReturnsInHanded {} Try.checked os 6 .any (Rows.sweepAnswersSpec.pre6 enc Try.prog Try.f6 Rows.sweepAnswersRow.domain false) (Rows.sweepAnswersSpec.post enc Try.prog Try.f6 false true false false) :=
  lift_law (C := Try.checked) (s := Rows.sweepAnswersSpec) laidOut own started (by kernel_rfl) Try.func6 (by kernel_rfl) Try.underlying4 (by kernel_rfl) rfl
      (fun ds hd => by rw [Try.params6] at hd; match ds, hd with | [_, _, _], _ => rfl)
      (ChangeSpec.witness6 (enc := enc) (C := Try.checked) false ⟨#[], #[.slice none 0 0, .int .i64 0, .int .i64 0], []⟩ 8 (by kernel_rfl) (by kernel_rfl) (by kernel_rfl) (by kernel_rfl))
      (answers_law H enc)
theorem answers_holds : Rows.SweepAnswersSaid :=
  OpenClaim.holds_of_wide 6 Try.f6 rfl rfl rfl rfl rfl rfl rfl ⟨rfl, rfl, rfl, rfl, rfl⟩ rfl rfl rfl rfl rfl (by kernel_rfl) Try.func6 (by kernel_rfl)
    (of_decide_eq_true (by kernel_rfl)) (by unfold Func.isWrapper; first | (rw [if_pos (by decide +kernel)]; kernel_rfl) | (rw [if_neg (by decide +kernel)]; exact ⟨rfl, rfl⟩))
    (fun os started H enc _ => answers_lifted os started H enc)
#print axioms answers_holds
end Go.Proofs.Ytefidbifgilekaa
