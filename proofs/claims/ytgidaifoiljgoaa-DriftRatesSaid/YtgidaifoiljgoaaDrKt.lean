/- DriftRates: what is honest by a rate is by each greater one; fewer readings of an honest clock are those of one; for all rates and rows of readings. -/
import Derived.Test.YtgidaifoiljgoaaM10
namespace Go.Proofs.Ytgidaifoiljgoaa
set_option linter.unusedSimpArgs false
set_option linter.unusedVariables false
open Go.ChangeShapes Go.WideShapes Go.ChangeAt Go.RowKit
set_option maxRecDepth 100000 in
theorem drates_lifted (os : Os) (started : os.Started) (H : Type) (enc : TypeId × Value → H) :
    ReturnsInHanded {} Try.checked os 10 .any (Rows.driftRatesSpec.pre6 enc Try.prog Try.f10 Rows.driftRatesRow.domain false) (Rows.driftRatesSpec.post enc Try.prog Try.f10 false true false false) :=
  lift_law (C := Try.checked) (s := Rows.driftRatesSpec) laidOut own started (by kernel_rfl) Try.func10 (by kernel_rfl) Try.underlying4 (by kernel_rfl) rfl
      (fun ds hd => by rw [Try.params10] at hd; match ds, hd with | [_, _, _, _], _ => rfl)
      (ChangeSpec.witness6 (enc := enc) (C := Try.checked) false ⟨#[], #[.int .i64 0, .int .i64 0, .slice none 0 0, .int .i64 0], []⟩ 8 (by kernel_rfl) (by kernel_rfl) (by kernel_rfl) (by kernel_rfl))
      (drates_law H enc)
theorem drates_holds : Rows.DriftRatesSaid :=
  OpenClaim.holds_of_wide 10 Try.f10 rfl rfl rfl rfl rfl rfl rfl ⟨rfl, rfl, rfl, rfl, rfl⟩ rfl rfl rfl rfl rfl (by kernel_rfl) Try.func10 (by kernel_rfl)
    (of_decide_eq_true (by kernel_rfl)) (by unfold Func.isWrapper; first | (rw [if_pos (by decide +kernel)]; kernel_rfl) | (rw [if_neg (by decide +kernel)]; exact ⟨rfl, rfl⟩))
    (fun os started H enc _ => drates_lifted os started H enc)
#print axioms drates_holds
end Go.Proofs.Ytgidaifoiljgoaa
