/- CellFolds: every Fold, Right, Add and Note answers what the document says. -/
import Derived.Test.YtbjmdnemeidpjaaM14
namespace Go.Proofs.Ytbjmdnemeidpjaa
set_option linter.unusedSimpArgs false
set_option linter.unusedVariables false
open Go.ChangeShapes Go.WideShapes Go.ChangeAt Go.RowKit
set_option maxRecDepth 100000 in
theorem folds21_lifted (os : Os) (started : os.Started) (H : Type) (enc : TypeId × Value → H) :
    ReturnsInHanded {} Try.checked os 3 .any (Rows.cellFoldsSpec.pre6 enc Try.prog Try.f3 Rows.cellFoldsRow.domain false) (Rows.cellFoldsSpec.post enc Try.prog Try.f3 false true false false) :=
  lift_law (C := Try.checked) (s := Rows.cellFoldsSpec) laidOut own started (by kernel_rfl) Try.func3 (by kernel_rfl) Try.underlying4 (by kernel_rfl) rfl
      (fun ds hd => by rw [Try.params3] at hd; match ds, hd with | [_, _, _, _], _ => rfl)
      (ChangeSpec.witness6 (enc := enc) (C := Try.checked) false ⟨#[], #[.slice none 0 0, .agg Try.zeroCells29, .int .i64 0, .bool false], []⟩ 8 (by kernel_rfl) (by kernel_rfl) (by kernel_rfl) (by kernel_rfl))
      (folds21_law H enc)
theorem folds21_holds : Rows.CellFoldsSaid :=
  OpenClaim.holds_of_wide 3 Try.f3 rfl rfl rfl rfl rfl rfl rfl ⟨rfl, rfl, rfl, rfl, rfl⟩ rfl rfl rfl rfl rfl (by kernel_rfl) Try.func3 (by kernel_rfl)
    (of_decide_eq_true (by kernel_rfl)) (by unfold Func.isWrapper; first | (rw [if_pos (by decide +kernel)]; kernel_rfl) | (rw [if_neg (by decide +kernel)]; exact ⟨rfl, rfl⟩))
    (fun os started H enc _ => folds21_lifted os started H enc)
#print axioms folds21_holds
end Go.Proofs.Ytbjmdnemeidpjaa
