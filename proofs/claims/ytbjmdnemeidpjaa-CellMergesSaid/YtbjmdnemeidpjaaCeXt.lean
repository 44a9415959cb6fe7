/- CellMerges: every Merge answers what the document says; the order makes no difference. -/
import Derived.Test.YtbjmdnemeidpjaaM15
namespace Go.Proofs.Ytbjmdnemeidpjaa
set_option linter.unusedSimpArgs false
set_option linter.unusedVariables false
open Go.ChangeShapes Go.WideShapes Go.ChangeAt Go.RowKit
set_option maxRecDepth 100000 in
theorem merges21_lifted (os : Os) (started : os.Started) (H : Type) (enc : TypeId × Value → H) :
    ReturnsInHanded {} Try.checked os 4 .any (Rows.cellMergesSpec.pre6 enc Try.prog Try.f4 Rows.cellMergesRow.domain false) (Rows.cellMergesSpec.post enc Try.prog Try.f4 false true false false) :=
  lift_law (C := Try.checked) (s := Rows.cellMergesSpec) laidOut own started (by kernel_rfl) Try.func4 (by kernel_rfl) Try.underlying4 (by kernel_rfl) rfl
      (fun ds hd => by rw [Try.params4] at hd; match ds, hd with | [_, _], _ => rfl)
      (ChangeSpec.witness6 (enc := enc) (C := Try.checked) false ⟨#[], #[.slice none 0 0, .int .i64 0], []⟩ 8 (by kernel_rfl) (by kernel_rfl) (by kernel_rfl) (by kernel_rfl))
      (merges21_law H enc)
theorem merges21_holds : Rows.CellMergesSaid :=
  OpenClaim.holds_of_wide 4 Try.f4 rfl rfl rfl rfl rfl rfl rfl ⟨rfl, rfl, rfl, rfl, rfl⟩ rfl rfl rfl rfl rfl (by kernel_rfl) Try.func4 (by kernel_rfl)
    (of_decide_eq_true (by kernel_rfl)) (by unfold Func.isWrapper; first | (rw [if_pos (by decide +kernel)]; kernel_rfl) | (rw [if_neg (by decide +kernel)]; exact ⟨rfl, rfl⟩))
    (fun os started H enc _ => merges21_lifted os started H enc)
#print axioms merges21_holds
end Go.Proofs.Ytbjmdnemeidpjaa
