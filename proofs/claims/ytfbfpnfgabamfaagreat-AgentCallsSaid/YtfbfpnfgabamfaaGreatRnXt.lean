/- AgentCalls: for all ids, bounds and rows of calls. -/
import Derived.Test.YtfbfpnfgabamfaaGreatM17
namespace Go.Proofs.YtfbfpnfgabamfaaGreat
set_option linter.unusedSimpArgs false
set_option linter.unusedVariables false
open Go.ChangeShapes Go.WideShapes Go.ChangeAt Go.RowKit
set_option maxRecDepth 100000 in
theorem calls14_law (H : Type) (enc : TypeId × Value → H) : LawWalk H enc Tryz.prog 3 Tryz.f3 :=
  lawWalk_of_sat (by kernel_rfl) fun args h => by
    obtain ⟨a, _, rfl, h1, h⟩ := h
    obtain ⟨b, _, rfl, h2, h⟩ := h
    obtain ⟨c, _, rfl, h3, h⟩ := h
    obtain rfl := h
    obtain ⟨id, rfl, hid⟩ := ty_i64 h1 Tryz.underlying2
    obtain ⟨most, rfl, hm⟩ := ty_i64 h2 Tryz.underlying3
    obtain ⟨l, rfl, hl⟩ := ty_calls h3
    exact calls14_sat id most l hid hm hl
set_option maxRecDepth 100000 in
theorem calls14_lifted (os : Os) (started : os.Started) (H : Type) (enc : TypeId × Value → H) :
    ReturnsInHanded {} Tryz.checked os 3 .any (Rows.agentCallsSpec.pre6 enc Tryz.prog Tryz.f3 Rows.agentCallsRow.domain false) (Rows.agentCallsSpec.post enc Tryz.prog Tryz.f3 false true false false) :=
  lift_law (C := Tryz.checked) (s := Rows.agentCallsSpec) laidOut own started (by kernel_rfl) Tryz.func3 (by kernel_rfl) Tryz.underlying4 (by kernel_rfl) rfl
      (fun ds hd => by rw [Tryz.params3] at hd; match ds, hd with | [_, _, _], _ => rfl)
      (ChangeSpec.witness6 (enc := enc) (C := Tryz.checked) false ⟨#[], #[.int .i64 0, .int .i64 0, .slice none 0 0], []⟩ 8 (by kernel_rfl) (by kernel_rfl) (by kernel_rfl) (by kernel_rfl))
      (calls14_law H enc)
theorem calls14_holds : Rows.AgentCallsSaid :=
  OpenClaim.holds_of_wide 3 Tryz.f3 rfl rfl rfl rfl rfl rfl rfl ⟨rfl, rfl, rfl, rfl, rfl⟩ rfl rfl rfl rfl rfl (by kernel_rfl) Tryz.func3 (by kernel_rfl)
    (of_decide_eq_true (by kernel_rfl)) (by unfold Func.isWrapper; first | (rw [if_pos (by decide +kernel)]; kernel_rfl) | (rw [if_neg (by decide +kernel)]; exact ⟨rfl, rfl⟩))
    (fun os started H enc _ => calls14_lifted os started H enc)
#print axioms calls14_holds
end Go.Proofs.YtfbfpnfgabamfaaGreat
