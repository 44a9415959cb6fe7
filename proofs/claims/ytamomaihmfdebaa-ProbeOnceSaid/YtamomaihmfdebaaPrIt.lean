/- ProbeOnce: for all numbers and rows of calls. -/
import Derived.Test.YtamomaihmfdebaaM7
namespace Go.Proofs.Ytamomaihmfdebaa
set_option linter.unusedSimpArgs false
set_option linter.unusedVariables false
open Go.ChangeShapes Go.WideShapes Go.ChangeAt Go.RowKit
set_option maxRecDepth 100000 in
theorem once16_lifted (os : Os) (started : os.Started) (H : Type) (enc : TypeId × Value → H) :
    ReturnsInHanded {} Try.checked os 3 .any (Rows.probeOnceSpec.pre6 enc Try.prog Try.f3 Rows.probeOnceRow.domain false) (Rows.probeOnceSpec.post enc Try.prog Try.f3 false true false false) :=
  lift_law (C := Try.checked) (s := Rows.probeOnceSpec) laidOut own started (by kernel_rfl) Try.func3 (by kernel_rfl) Try.underlying4 (by kernel_rfl) rfl
      (fun ds hd => by rw [Try.params3] at hd; match ds, hd with | [_, _, _, _], _ => rfl)
      (ChangeSpec.witness6 (enc := enc) (C := Try.checked) false ⟨#[], #[.int .i64 0, .int .i64 0, .int .i64 0, .slice none 0 0], []⟩ 8 (by kernel_rfl) (by kernel_rfl) (by kernel_rfl) (by kernel_rfl))
      (once16_law H enc)
theorem once16_holds : Rows.ProbeOnceSaid :=
  OpenClaim.holds_of_wide 3 Try.f3 rfl rfl rfl rfl rfl rfl rfl ⟨rfl, rfl, rfl, rfl, rfl⟩ rfl rfl rfl rfl rfl (by kernel_rfl) Try.func3 (by kernel_rfl)
    (of_decide_eq_true (by kernel_rfl)) (by unfold Func.isWrapper; first | (rw [if_pos (by decide +kernel)]; kernel_rfl) | (rw [if_neg (by decide +kernel)]; exact ⟨rfl, rfl⟩))
    (fun os started H enc _ => once16_lifted os started H enc)
#print axioms once16_holds
end Go.Proofs.Ytamomaihmfdebaa
