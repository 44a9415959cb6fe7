/- ClockWidth: the interval of a stamp isn't wider than any retained sample's trip, and twice the slack of its greater distance, and 4; for every rate, row of samples and stamp. -/
import Derived.Test.YtgidaifoiljgoaaKx
import Derived.Test.YtgidaifoiljgoaaLaid
namespace Go.Proofs.Ytgidaifoiljgoaa
set_option linter.unusedSimpArgs false
set_option linter.unusedVariables false
open Go.ChangeShapes Go.WideShapes Go.ChangeAt Go.RowKit
set_option maxRecDepth 100000 in
theorem width_lifted (os : Os) (started : os.Started) (H : Type) (enc : TypeId × Value → H) :
    ReturnsInHanded {} Try.checked os 7 .any (Rows.clockWidthSpec.pre6 enc Try.prog Try.f7 Rows.clockWidthRow.domain false) (Rows.clockWidthSpec.post enc Try.prog Try.f7 false true false false) :=
  lift_law (C := Try.checked) (s := Rows.clockWidthSpec) laidOut own started (by kernel_rfl) Try.func7 (by kernel_rfl) Try.underlying4 (by kernel_rfl) rfl
      (fun ds hd => by rw [Try.params7] at hd; match ds, hd with | [_, _, _], _ => rfl)
      (ChangeSpec.witness6 (enc := enc) (C := Try.checked) false ⟨#[], #[.int .i64 0, .slice none 0 0, .int .i64 0], []⟩ 8 (by kernel_rfl) (by kernel_rfl) (by kernel_rfl) (by kernel_rfl))
      (width_law H enc)
theorem width_holds : Rows.ClockWidthSaid :=
  OpenClaim.holds_of_wide 7 Try.f7 rfl rfl rfl rfl rfl rfl rfl ⟨rfl, rfl, rfl, rfl, rfl⟩ rfl rfl rfl rfl rfl (by kernel_rfl) Try.func7 (by kernel_rfl)
    (of_decide_eq_true (by kernel_rfl)) (by unfold Func.isWrapper; first | (rw [if_pos (by decide +kernel)]; kernel_rfl) | (rw [if_neg (by decide +kernel)]; exact ⟨rfl, rfl⟩))
    (fun os started H enc _ => width_lifted os started H enc)
#print axioms width_holds
end Go.Proofs.Ytgidaifoiljgoaa
