/- ClockTrusts: a clock that is held is trusted again once so many samples agreed one after the other, and not ahead; the streak tells how many; for every rate, trust count and row of samples. -/
import Derived.Test.YtgidaifoiljgoaaKh
import Derived.Test.YtgidaifoiljgoaaLaid
namespace Go.Proofs.Ytgidaifoiljgoaa
set_option linter.unusedSimpArgs false
set_option linter.unusedVariables false
open Go.ChangeShapes Go.WideShapes Go.ChangeAt Go.RowKit
set_option maxRecDepth 100000 in
theorem trusts_lifted (os : Os) (started : os.Started) (H : Type) (enc : TypeId × Value → H) :
    ReturnsInHanded {} Try.checked os 5 .any (Rows.clockTrustsSpec.pre6 enc Try.prog Try.f5 Rows.clockTrustsRow.domain false) (Rows.clockTrustsSpec.post enc Try.prog Try.f5 false true false false) :=
  lift_law (C := Try.checked) (s := Rows.clockTrustsSpec) laidOut own started (by kernel_rfl) Try.func5 (by kernel_rfl) Try.underlying4 (by kernel_rfl) rfl
      (fun ds hd => by rw [Try.params5] at hd; match ds, hd with | [_, _, _], _ => rfl)
      (ChangeSpec.witness6 (enc := enc) (C := Try.checked) false ⟨#[], #[.int .i64 0, .int .i64 0, .slice none 0 0], []⟩ 8 (by kernel_rfl) (by kernel_rfl) (by kernel_rfl) (by kernel_rfl))
      (trusts_law H enc)
theorem trusts_holds : Rows.ClockTrustsSaid :=
  OpenClaim.holds_of_wide 5 Try.f5 rfl rfl rfl rfl rfl rfl rfl ⟨rfl, rfl, rfl, rfl, rfl⟩ rfl rfl rfl rfl rfl (by kernel_rfl) Try.func5 (by kernel_rfl)
    (of_decide_eq_true (by kernel_rfl)) (by unfold Func.isWrapper; first | (rw [if_pos (by decide +kernel)]; kernel_rfl) | (rw [if_neg (by decide +kernel)]; exact ⟨rfl, rfl⟩))
    (fun os started H enc _ => trusts_lifted os started H enc)
#print axioms trusts_holds
end Go.Proofs.Ytgidaifoiljgoaa
