/- ShelfTallies: for all events. -/
import Derived.Test.YtbjmdnemeidpjaaM10
namespace Go.Proofs.Ytbjmdnemeidpjaa
set_option linter.unusedSimpArgs false
set_option linter.unusedVariables false
open Go.ChangeShapes Go.WideShapes Go.ChangeAt Go.RowKit
set_option maxRecDepth 100000 in
theorem tallies22_lifted (os : Os) (started : os.Started) (H : Type) (enc : TypeId × Value → H) :
    ReturnsInHanded {} Try.checked os 7 .any (Rows.shelfTalliesSpec.pre6 enc Try.prog Try.f7 Rows.shelfTalliesRow.domain false) (Rows.shelfTalliesSpec.post enc Try.prog Try.f7 false true false false) :=
  lift_law (C := Try.checked) (s := Rows.shelfTalliesSpec) laidOut own started (by kernel_rfl) Try.func7 (by kernel_rfl) Try.underlying4 (by kernel_rfl) rfl
      (fun ds hd => by rw [Try.params7] at hd; match ds, hd with | [_], _ => rfl)
      (ChangeSpec.witness6 (enc := enc) (C := Try.checked) false ⟨#[], #[.slice none 0 0], []⟩ 8 (by kernel_rfl) (by kernel_rfl) (by kernel_rfl) (by kernel_rfl))
      (tallies22_law H enc)
theorem tallies22_holds : Rows.ShelfTalliesSaid :=
  OpenClaim.holds_of_wide 7 Try.f7 rfl rfl rfl rfl rfl rfl rfl ⟨rfl, rfl, rfl, rfl, rfl⟩ rfl rfl rfl rfl rfl (by kernel_rfl) Try.func7 (by kernel_rfl)
    (of_decide_eq_true (by kernel_rfl)) (by unfold Func.isWrapper; first | (rw [if_pos (by decide +kernel)]; kernel_rfl) | (rw [if_neg (by decide +kernel)]; exact ⟨rfl, rfl⟩))
    (fun os started H enc _ => tallies22_lifted os started H enc)
#print axioms tallies22_holds
end Go.Proofs.Ytbjmdnemeidpjaa
