/- FrameSpoilt: for all frames, all places, cut or turned. -/
import Derived.Test.YtfbfpnfgabamfaaM15
namespace Go.Proofs.Ytfbfpnfgabamfaa
set_option linter.unusedSimpArgs false
set_option linter.unusedVariables false
open Go.ChangeShapes Go.WideShapes Go.ChangeAt Go.RowKit
set_option maxRecDepth 100000 in
theorem spoilt_law (H : Type) (enc : TypeId × Value → H) : LawWalk H enc Try.prog 3 Try.f3 :=
  lawWalk_of_sat (by kernel_rfl) fun args h => by
    obtain ⟨a, _, rfl, h1, h⟩ := h
    obtain ⟨b, _, rfl, h2, h⟩ := h
    obtain ⟨c, _, rfl, h3, h⟩ := h
    obtain rfl := h
    obtain ⟨f, rfl, h64⟩ := ty_frame h1
    obtain ⟨z, rfl, hz⟩ := ty_i64 h2 Try.underlying3
    obtain ⟨q, rfl⟩ := ty_bool h3 Try.underlying4
    exact spoilt_sat f z q h64 hz
set_option maxRecDepth 100000 in
theorem spoilt_lifted (os : Os) (started : os.Started) (H : Type) (enc : TypeId × Value → H) :
    ReturnsInHanded {} Try.checked os 3 .any (Rows.frameSpoiltSpec.pre6 enc Try.prog Try.f3 Rows.frameSpoiltRow.domain false) (Rows.frameSpoiltSpec.post enc Try.prog Try.f3 false true false false) :=
  lift_law (C := Try.checked) (s := Rows.frameSpoiltSpec) laidOut own started (by kernel_rfl) Try.func3 (by kernel_rfl) Try.underlying4 (by kernel_rfl) rfl
      (fun ds hd => by rw [Try.params3] at hd; match ds, hd with | [_, _, _], _ => rfl)
      (ChangeSpec.witness6 (enc := enc) (C := Try.checked) false ⟨#[], #[.agg #[.int .i64 0, .int .i64 0, .int .i64 0, .int .i64 0, .int .i64 0, .int .i64 0, .int .i64 0, .int .i64 0, .int .i64 0, .int .i64 0, .slice none 0 0, .string ⟨#[]⟩, .slice none 0 0, .slice none 0 0], .int .i64 0, .bool false], []⟩ 8 (by kernel_rfl) (by kernel_rfl) (by kernel_rfl) (by kernel_rfl))
      (spoilt_law H enc)
theorem spoilt_holds : Rows.FrameSpoiltSaid :=
  OpenClaim.holds_of_wide 3 Try.f3 rfl rfl rfl rfl rfl rfl rfl ⟨rfl, rfl, rfl, rfl, rfl⟩ rfl rfl rfl rfl rfl (by kernel_rfl) Try.func3 (by kernel_rfl)
    (of_decide_eq_true (by kernel_rfl)) (by unfold Func.isWrapper; first | (rw [if_pos (by decide +kernel)]; kernel_rfl) | (rw [if_neg (by decide +kernel)]; exact ⟨rfl, rfl⟩))
    (fun os started H enc _ => spoilt_lifted os started H enc)
#print axioms spoilt_holds
end Go.Proofs.Ytfbfpnfgabamfaa
