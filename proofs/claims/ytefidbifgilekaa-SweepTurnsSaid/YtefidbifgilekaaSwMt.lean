/- SweepTurns: the order of the gaps makes no difference; a gap that has all changes no best ones; for all gaps. -/
import Derived.Test.YtefidbifgilekaaM9
namespace Go.Proofs.Ytefidbifgilekaa
set_option linter.unusedSimpArgs false
set_option linter.unusedVariables false
open Go.ChangeShapes Go.WideShapes Go.ChangeAt Go.RowKit
set_option maxRecDepth 100000 in
theorem turnsL_lifted (os : Os) (started : os.Started) (H : Type) (enc : TypeId × Value → H) :
    ReturnsInHanded {} Try.checked os 7 .any (Rows.sweepTurnsSpec.pre6 enc Try.prog Try.f7 Rows.sweepTurnsRow.domain false) (Rows.sweepTurnsSpec.post enc Try.prog Try.f7 false true false false) :=
  lift_law (C := Try.checked) (s := Rows.sweepTurnsSpec) laidOut own started (by kernel_rfl) Try.func7 (by kernel_rfl) Try.underlying4 (by kernel_rfl) rfl
      (fun ds hd => by rw [Try.params7] at hd; match ds, hd with | [_, _, _], _ => rfl)
      (ChangeSpec.witness6 (enc := enc) (C := Try.checked) false ⟨#[], #[.slice none 0 0, .int .i64 0, .int .i64 0], []⟩ 8 (by kernel_rfl) (by kernel_rfl) (by kernel_rfl) (by kernel_rfl))
      (turnsL_law H enc)
theorem turnsL_holds : Rows.SweepTurnsSaid :=
  OpenClaim.holds_of_wide 7 Try.f7 rfl rfl rfl rfl rfl rfl rfl ⟨rfl, rfl, rfl, rfl, rfl⟩ rfl rfl rfl rfl rfl (by kernel_rfl) Try.func7 (by kernel_rfl)
    (of_decide_eq_true (by kernel_rfl)) (by unfold Func.isWrapper; first | (rw [if_pos (by decide +kernel)]; kernel_rfl) | (rw [if_neg (by decide +kernel)]; exact ⟨rfl, rfl⟩))
    (fun os started H enc _ => turnsL_lifted os started H enc)
#print axioms turnsL_holds
end Go.Proofs.Ytefidbifgilekaa
