/- CellParts: the cell of values is that of their parts, merged. -/
import Derived.Test.YtbjmdnemeidpjaaM13
namespace Go.Proofs.Ytbjmdnemeidpjaa
set_option linter.unusedSimpArgs false
set_option linter.unusedVariables false
open Go.ChangeShapes Go.WideShapes Go.ChangeAt Go.RowKit
set_option maxRecDepth 100000 in
theorem parts21_lifted (os : Os) (started : os.Started) (H : Type) (enc : TypeId × Value → H) :
    ReturnsInHanded {} Try.checked os 5 .any (Rows.cellPartsSpec.pre6 enc Try.prog Try.f5 Rows.cellPartsRow.domain false) (Rows.cellPartsSpec.post enc Try.prog Try.f5 false true false false) :=
  lift_law (C := Try.checked) (s := Rows.cellPartsSpec) laidOut own started (by kernel_rfl) Try.func5 (by kernel_rfl) Try.underlying4 (by kernel_rfl) rfl
      (fun ds hd => by rw [Try.params5] at hd; match ds, hd with | [_, _], _ => rfl)
      (ChangeSpec.witness6 (enc := enc) (C := Try.checked) false ⟨#[], #[.slice none 0 0, .int .i64 0], []⟩ 8 (by kernel_rfl) (by kernel_rfl) (by kernel_rfl) (by kernel_rfl))
      (parts21_law H enc)
theorem parts21_holds : Rows.CellPartsSaid :=
  OpenClaim.holds_of_wide 5 Try.f5 rfl rfl rfl rfl rfl rfl rfl ⟨rfl, rfl, rfl, rfl, rfl⟩ rfl rfl rfl rfl rfl (by kernel_rfl) Try.func5 (by kernel_rfl)
    (of_decide_eq_true (by kernel_rfl)) (by unfold Func.isWrapper; first | (rw [if_pos (by decide +kernel)]; kernel_rfl) | (rw [if_neg (by decide +kernel)]; exact ⟨rfl, rfl⟩))
    (fun os started H enc _ => parts21_lifted os started H enc)
#print axioms parts21_holds
end Go.Proofs.Ytbjmdnemeidpjaa
