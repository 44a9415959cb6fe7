/- AgentClock: for all ids, bounds and rows of calls. -/
import Derived.Test.YtfbfpnfgabamfaaGreatM16
namespace Go.Proofs.YtfbfpnfgabamfaaGreat
set_option linter.unusedSimpArgs false
set_option linter.unusedVariables false
open Go.ChangeShapes Go.WideShapes Go.ChangeAt Go.RowKit
set_option maxRecDepth 100000 in
theorem clock14_law (H : Type) (enc : TypeId × Value → H) : LawWalk H enc Tryz.prog 4 Tryz.f4 :=
  lawWalk_of_sat (by kernel_rfl) fun args h => by
    obtain ⟨a, _, rfl, h1, h⟩ := h
    obtain ⟨b, _, rfl, h2, h⟩ := h
    obtain ⟨c, _, rfl, h3, h⟩ := h
    obtain rfl := h
    obtain ⟨id, rfl, hid⟩ := ty_i64 h1 Tryz.underlying2
    obtain ⟨most, rfl, hm⟩ := ty_i64 h2 Tryz.underlying3
    obtain ⟨l, rfl, hl⟩ := ty_calls h3
    exact clock14_sat id most l hid hm hl
set_option maxRecDepth 100000 in
theorem clock14_lifted (os : Os) (started : os.Started) (H : Type) (enc : TypeId × Value → H) :
    ReturnsInHanded {} Tryz.checked os 4 .any (Rows.agentClockSpec.pre6 enc Tryz.prog Tryz.f4 Rows.agentClockRow.domain false) (Rows.agentClockSpec.post enc Tryz.prog Tryz.f4 false true false false) :=
  lift_law (C := Tryz.checked) (s := Rows.agentClockSpec) laidOut own started (by kernel_rfl) Tryz.func4 (by kernel_rfl) Tryz.underlying4 (by kernel_rfl) rfl
      (fun ds hd => by rw [Tryz.params4] at hd; match ds, hd with | [_, _, _], _ => rfl)
      (ChangeSpec.witness6 (enc := enc) (C := Tryz.checked) false ⟨#[], #[.int .i64 0, .int .i64 0, .slice none 0 0], []⟩ 8 (by kernel_rfl) (by kernel_rfl) (by kernel_rfl) (by kernel_rfl))
      (clock14_law H enc)
theorem clock14_holds : Rows.AgentClockSaid :=
  OpenClaim.holds_of_wide 4 Tryz.f4 rfl rfl rfl rfl rfl rfl rfl ⟨rfl, rfl, rfl, rfl, rfl⟩ rfl rfl rfl rfl rfl (by kernel_rfl) Tryz.func4 (by kernel_rfl)
    (of_decide_eq_true (by kernel_rfl)) (by unfold Func.isWrapper; first | (rw [if_pos (by decide +kernel)]; kernel_rfl) | (rw [if_neg (by decide +kernel)]; exact ⟨rfl, rfl⟩))
    (fun os started H enc _ => clock14_lifted os started H enc)
#print axioms clock14_holds
end Go.Proofs.YtfbfpnfgabamfaaGreat
