/- AgentAcks: for all ids, bounds, rows of calls, numbers, of the agent's epoch and of another. -/
import Derived.Test.YtfbfpnfgabamfaaGreatM17
namespace Go.Proofs.YtfbfpnfgabamfaaGreat
set_option linter.unusedSimpArgs false
set_option linter.unusedVariables false
open Go.ChangeShapes Go.WideShapes Go.ChangeAt Go.RowKit
set_option maxRecDepth 100000 in
theorem acks_law (H : Type) (enc : TypeId × Value → H) : LawWalk H enc Tryz.prog 6 Tryz.f6 :=
  lawWalk_of_sat (by kernel_rfl) fun args h => by
    obtain ⟨a, _, rfl, h1, h⟩ := h
    obtain ⟨b, _, rfl, h2, h⟩ := h
    obtain ⟨c, _, rfl, h3, h⟩ := h
    obtain ⟨d, _, rfl, h4, h⟩ := h
    obtain ⟨e, _, rfl, h5, h⟩ := h
    obtain rfl := h
    obtain ⟨id, rfl, hid⟩ := ty_i64 h1 Tryz.underlying2
    obtain ⟨most, rfl, hm⟩ := ty_i64 h2 Tryz.underlying3
    obtain ⟨l, rfl, hl⟩ := ty_calls h3
    obtain ⟨next, rfl, hn⟩ := ty_i64 h4 Tryz.underlying2
    obtain ⟨o, rfl⟩ := ty_bool h5 Tryz.underlying4
    exact acks_sat id most l next o hid hm hl hn
set_option maxRecDepth 100000 in
theorem acks_lifted (os : Os) (started : os.Started) (H : Type) (enc : TypeId × Value → H) :
    ReturnsInHanded {} Tryz.checked os 6 .any (Rows.agentAcksSpec.pre6 enc Tryz.prog Tryz.f6 Rows.agentAcksRow.domain false) (Rows.agentAcksSpec.post enc Tryz.prog Tryz.f6 false true false false) :=
  lift_law (C := Tryz.checked) (s := Rows.agentAcksSpec) laidOut own started (by kernel_rfl) Tryz.func6 (by kernel_rfl) Tryz.underlying4 (by kernel_rfl) rfl
      (fun ds hd => by rw [Tryz.params6] at hd; match ds, hd with | [_, _, _, _, _], _ => rfl)
      (ChangeSpec.witness6 (enc := enc) (C := Tryz.checked) false ⟨#[], #[.int .i64 0, .int .i64 0, .slice none 0 0, .int .i64 0, .bool false], []⟩ 8 (by kernel_rfl) (by kernel_rfl) (by kernel_rfl) (by kernel_rfl))
      (acks_law H enc)
theorem acks_holds : Rows.AgentAcksSaid :=
  OpenClaim.holds_of_wide 6 Tryz.f6 rfl rfl rfl rfl rfl rfl rfl ⟨rfl, rfl, rfl, rfl, rfl⟩ rfl rfl rfl rfl rfl (by kernel_rfl) Tryz.func6 (by kernel_rfl)
    (of_decide_eq_true (by kernel_rfl)) (by unfold Func.isWrapper; first | (rw [if_pos (by decide +kernel)]; kernel_rfl) | (rw [if_neg (by decide +kernel)]; exact ⟨rfl, rfl⟩))
    (fun os started H enc _ => acks_lifted os started H enc)
#print axioms acks_holds
end Go.Proofs.YtfbfpnfgabamfaaGreat
