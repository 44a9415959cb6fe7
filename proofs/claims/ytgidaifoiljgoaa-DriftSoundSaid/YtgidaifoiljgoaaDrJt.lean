/- DriftSound: the true time between an honest clock's readings is within the bounds; for all rates and rows of readings. -/
import Derived.Test.YtgidaifoiljgoaaM10
namespace Go.Proofs.Ytgidaifoiljgoaa
set_option linter.unusedSimpArgs false
set_option linter.unusedVariables false
open Go.ChangeShapes Go.WideShapes Go.ChangeAt Go.RowKit
set_option maxRecDepth 100000 in
theorem dsound_lifted (os : Os) (started : os.Started) (H : Type) (enc : TypeId × Value → H) :
    ReturnsInHanded {} Try.checked os 9 .any (Rows.driftSoundSpec.pre6 enc Try.prog Try.f9 Rows.driftSoundRow.domain false) (Rows.driftSoundSpec.post enc Try.prog Try.f9 false true false false) :=
  lift_law (C := Try.checked) (s := Rows.driftSoundSpec) laidOut own started (by kernel_rfl) Try.func9 (by kernel_rfl) Try.underlying4 (by kernel_rfl) rfl
      (fun ds hd => by rw [Try.params9] at hd; match ds, hd with | [_, _], _ => rfl)
      (ChangeSpec.witness6 (enc := enc) (C := Try.checked) false ⟨#[], #[.int .i64 0, .slice none 0 0], []⟩ 8 (by kernel_rfl) (by kernel_rfl) (by kernel_rfl) (by kernel_rfl))
      (dsound_law H enc)
theorem dsound_holds : Rows.DriftSoundSaid :=
  OpenClaim.holds_of_wide 9 Try.f9 rfl rfl rfl rfl rfl rfl rfl ⟨rfl, rfl, rfl, rfl, rfl⟩ rfl rfl rfl rfl rfl (by kernel_rfl) Try.func9 (by kernel_rfl)
    (of_decide_eq_true (by kernel_rfl)) (by unfold Func.isWrapper; first | (rw [if_pos (by decide +kernel)]; kernel_rfl) | (rw [if_neg (by decide +kernel)]; exact ⟨rfl, rfl⟩))
    (fun os started H enc _ => dsound_lifted os started H enc)
#print axioms dsound_holds
end Go.Proofs.Ytgidaifoiljgoaa
