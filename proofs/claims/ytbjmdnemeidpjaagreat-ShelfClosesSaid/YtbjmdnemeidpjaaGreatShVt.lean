/- ShelfCloses: for all numbers, rows of calls and windows. -/
import Derived.Test.YtbjmdnemeidpjaaGreatM15
namespace Go.Proofs.YtbjmdnemeidpjaaGreat
set_option linter.unusedSimpArgs false
set_option linter.unusedVariables false
open Go.ChangeShapes Go.WideShapes Go.ChangeAt Go.RowKit
set_option maxRecDepth 100000 in
theorem closes22_lifted (os : Os) (started : os.Started) (H : Type) (enc : TypeId × Value → H) :
    ReturnsInHanded {} Tryz.checked os 4 .any (Rows.shelfClosesSpec.pre6 enc Tryz.prog Tryz.f4 Rows.shelfClosesRow.domain false) (Rows.shelfClosesSpec.post enc Tryz.prog Tryz.f4 false true false false) :=
  lift_law (C := Tryz.checked) (s := Rows.shelfClosesSpec) laidOut own started (by kernel_rfl) Tryz.func4 (by kernel_rfl) Tryz.underlying4 (by kernel_rfl) rfl
      (fun ds hd => by rw [Tryz.params4] at hd; match ds, hd with | [_, _, _], _ => rfl)
      (ChangeSpec.witness6 (enc := enc) (C := Tryz.checked) false ⟨#[], #[.int .i64 0, .slice none 0 0, .int .i64 0], []⟩ 8 (by kernel_rfl) (by kernel_rfl) (by kernel_rfl) (by kernel_rfl))
      (closes22_law H enc)
theorem closes22_holds : Rows.ShelfClosesSaid :=
  OpenClaim.holds_of_wide 4 Tryz.f4 rfl rfl rfl rfl rfl rfl rfl ⟨rfl, rfl, rfl, rfl, rfl⟩ rfl rfl rfl rfl rfl (by kernel_rfl) Tryz.func4 (by kernel_rfl)
    (of_decide_eq_true (by kernel_rfl)) (by unfold Func.isWrapper; first | (rw [if_pos (by decide +kernel)]; kernel_rfl) | (rw [if_neg (by decide +kernel)]; exact ⟨rfl, rfl⟩))
    (fun os started H enc _ => closes22_lifted os started H enc)
#print axioms closes22_holds
end Go.Proofs.YtbjmdnemeidpjaaGreat
