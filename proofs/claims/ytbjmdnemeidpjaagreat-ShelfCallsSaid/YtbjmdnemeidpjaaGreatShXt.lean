/- ShelfCalls: for all numbers, rows of calls and keys. -/
import Derived.Test.YtbjmdnemeidpjaaGreatM15
namespace Go.Proofs.YtbjmdnemeidpjaaGreat
set_option linter.unusedSimpArgs false
set_option linter.unusedVariables false
open Go.ChangeShapes Go.WideShapes Go.ChangeAt Go.RowKit
set_option maxRecDepth 100000 in
theorem calls22_lifted (os : Os) (started : os.Started) (H : Type) (enc : TypeId × Value → H) :
    ReturnsInHanded {} Tryz.checked os 3 .any (Rows.shelfCallsSpec.pre6 enc Tryz.prog Tryz.f3 Rows.shelfCallsRow.domain false) (Rows.shelfCallsSpec.post enc Tryz.prog Tryz.f3 false true false false) :=
  lift_law (C := Tryz.checked) (s := Rows.shelfCallsSpec) laidOut own started (by kernel_rfl) Tryz.func3 (by kernel_rfl) Tryz.underlying4 (by kernel_rfl) rfl
      (fun ds hd => by rw [Tryz.params3] at hd; match ds, hd with | [_, _, _], _ => rfl)
      (ChangeSpec.witness6 (enc := enc) (C := Tryz.checked) false ⟨#[], #[.int .i64 0, .slice none 0 0, .agg #[.int .i64 0, .string ⟨#[]⟩]], []⟩ 8 (by kernel_rfl) (by kernel_rfl) (by kernel_rfl) (by kernel_rfl))
      (calls22_law H enc)
theorem calls22_holds : Rows.ShelfCallsSaid :=
  OpenClaim.holds_of_wide 3 Tryz.f3 rfl rfl rfl rfl rfl rfl rfl ⟨rfl, rfl, rfl, rfl, rfl⟩ rfl rfl rfl rfl rfl (by kernel_rfl) Tryz.func3 (by kernel_rfl)
    (of_decide_eq_true (by kernel_rfl)) (by unfold Func.isWrapper; first | (rw [if_pos (by decide +kernel)]; kernel_rfl) | (rw [if_neg (by decide +kernel)]; exact ⟨rfl, rfl⟩))
    (fun os started H enc _ => calls22_lifted os started H enc)
#print axioms calls22_holds
end Go.Proofs.YtbjmdnemeidpjaaGreat
