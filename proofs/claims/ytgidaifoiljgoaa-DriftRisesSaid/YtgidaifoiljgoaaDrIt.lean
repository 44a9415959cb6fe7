/- DriftRises: of a greater distance both bounds are as great, or greater, and near the distance; for all distances and rates. -/
import Derived.Test.YtgidaifoiljgoaaM10
namespace Go.Proofs.Ytgidaifoiljgoaa
set_option linter.unusedSimpArgs false
set_option linter.unusedVariables false
open Go.ChangeShapes Go.WideShapes Go.ChangeAt Go.RowKit
set_option maxRecDepth 100000 in
theorem drises_lifted (os : Os) (started : os.Started) (H : Type) (enc : TypeId × Value → H) :
    ReturnsInHanded {} Try.checked os 8 .any (Rows.driftRisesSpec.pre6 enc Try.prog Try.f8 Rows.driftRisesRow.domain false) (Rows.driftRisesSpec.post enc Try.prog Try.f8 false true false false) :=
  lift_law (C := Try.checked) (s := Rows.driftRisesSpec) laidOut own started (by kernel_rfl) Try.func8 (by kernel_rfl) Try.underlying4 (by kernel_rfl) rfl
      (fun ds hd => by rw [Try.params8] at hd; match ds, hd with | [_, _, _], _ => rfl)
      (ChangeSpec.witness6 (enc := enc) (C := Try.checked) false ⟨#[], #[.int .i64 0, .int .i64 0, .int .i64 0], []⟩ 8 (by kernel_rfl) (by kernel_rfl) (by kernel_rfl) (by kernel_rfl))
      (drises_law H enc)
theorem drises_holds : Rows.DriftRisesSaid :=
  OpenClaim.holds_of_wide 8 Try.f8 rfl rfl rfl rfl rfl rfl rfl ⟨rfl, rfl, rfl, rfl, rfl⟩ rfl rfl rfl rfl rfl (by kernel_rfl) Try.func8 (by kernel_rfl)
    (of_decide_eq_true (by kernel_rfl)) (by unfold Func.isWrapper; first | (rw [if_pos (by decide +kernel)]; kernel_rfl) | (rw [if_neg (by decide +kernel)]; exact ⟨rfl, rfl⟩))
    (fun os started H enc _ => drises_lifted os started H enc)
#print axioms drises_holds
end Go.Proofs.Ytgidaifoiljgoaa
