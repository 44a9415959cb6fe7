/- HistRanks: every Total, Rank and Full is answered as the document says. -/
import Derived.Test.YtoammbfipinejaaM11
namespace Go.Proofs.Ytoammbfipinejaa
set_option linter.unusedSimpArgs false
set_option linter.unusedVariables false
open Go.ChangeShapes Go.WideShapes Go.ChangeAt Go.RowKit
set_option maxRecDepth 100000 in
theorem ranks_lifted (os : Os) (started : os.Started) (H : Type) (enc : TypeId × Value → H) :
    ReturnsInHanded {} Try.checked os 9 .any (Rows.histRanksSpec.pre6 enc Try.prog Try.f9 Rows.histRanksRow.domain false) (Rows.histRanksSpec.post enc Try.prog Try.f9 false true false false) :=
  lift_law (C := Try.checked) (s := Rows.histRanksSpec) laidOut own started (by kernel_rfl) Try.func9 (by kernel_rfl) Try.underlying4 (by kernel_rfl) rfl
      (fun ds hd => by rw [Try.params9] at hd; match ds, hd with | [_, _], _ => rfl)
      (ChangeSpec.witness6 (enc := enc) (C := Try.checked) false ⟨#[], #[.agg (Try.zeroCells68), .agg #[.int .i64 0, .int .u64 0]], []⟩ 8 (by kernel_rfl) (by kernel_rfl) (by kernel_rfl) (by kernel_rfl))
      (ranks_law H enc)
theorem ranks_holds : Rows.HistRanksSaid :=
  OpenClaim.holds_of_wide 9 Try.f9 rfl rfl rfl rfl rfl rfl rfl ⟨rfl, rfl, rfl, rfl, rfl⟩ rfl rfl rfl rfl rfl (by kernel_rfl) Try.func9 (by kernel_rfl)
    (of_decide_eq_true (by kernel_rfl)) (by unfold Func.isWrapper; first | (rw [if_pos (by decide +kernel)]; kernel_rfl) | (rw [if_neg (by decide +kernel)]; exact ⟨rfl, rfl⟩))
    (fun os started H enc _ => ranks_lifted os started H enc)
#print axioms ranks_holds
end Go.Proofs.Ytoammbfipinejaa
