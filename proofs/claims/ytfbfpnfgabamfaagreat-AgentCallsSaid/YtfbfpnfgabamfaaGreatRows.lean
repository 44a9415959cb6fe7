/-
  No cell of these rows narrows 'for every input' (looked for: loops, veiled, ifaces, maps, wideKeys, modest, calm, conditions, laid).
  DERIVED. THE GIVEN ROWS OF THIS SEAT. 5 by the template 'for every input the law returns true; each argument reads behind the call as it read before'; 0 by the template 'total and deterministic' (their statements: YtfbfpnfgabamfaaGreatTotals.lean).
  GIVEN WITH THE SEED: the statements are not yours to turn. If you find one false, say at which input.
  Laid BY PROGRAM, IN A SANDBOX (cutbox-rows.mjs): the forced cells as the released guide's own fill.sh prints them over the translation e109eae26660b1bf… (all of the seat's roots in one cut). By AI agents, Wed Nov 11 2026. No macro, syntax, notation, axiom, sorry.
-/
import Derived.Test.YtfbfpnfgabamfaaGreatChecked
import GoSem.Claim
import GoSem.ClaimJoined
import GoSem.ClaimMapViews
import Derived.JoinedTies
import Derived.KernelRfl
namespace Go.Proofs.YtfbfpnfgabamfaaGreat
/- THE CELL 'sum', in the pinned program and in every row, IS THE sha256 OF THE DUMP (.gsa) THAT YtfbfpnfgabamfaaGreatProg.lean LOADS. Nothing in Lean hashes anything: it is a label: what it is worth is what the hold of that sum in a sandbox is worth. -/
noncomputable def Tryz.pinned : Pinned := { name := "ytfbfpnfgabamfaagreat", sum := "e109eae26660b1bff3caf5f68d6ba81539b99479e4ec8f6b7947f2dd7d66fc9e", checked := Tryz.checked }
namespace Rows
def none {H : Type} : Left H := { results := [], args := [] }

/-- 'noonmarklaw14.AgentCalls': WHATEVER THE INPUT: true; the input reads as it did. -/
def agentCallsSpec : ChangeSpec := { name := "agentCalls", fn := fun _ => fun
  | [d1, d2, d3] => { results := [.lit (.bool true)], args := [d1, d2, d3] }
  | _ => none }
def agentCallsRow : OpenClaim := { program := "ytfbfpnfgabamfaagreat", sum := "e109eae26660b1bff3caf5f68d6ba81539b99479e4ec8f6b7947f2dd7d66fc9e", func := "noonmark/noonmarklaw14.AgentCalls", spec := "agentCalls", inPlace := ["internal/bytealg.IndexByteString", "internal/bytealg.MakeNoZero"], unfollowed := true, recurses := true, apart := false }
def AgentCallsSaid : Prop := agentCallsRow.holds Tryz.pinned (OpenSpec.ofChange agentCallsSpec)

/-- ITS FALSE NEIGHBOUR: 'it returns false'. Refute it at one input. -/
def agentCallsWrong : ChangeSpec := { name := "agentCalls", fn := fun _ => fun
  | [d1, d2, d3] => { results := [.lit (.bool false)], args := [d1, d2, d3] }
  | _ => none }
def AgentCallsWrongFalsely : Prop := agentCallsRow.holds Tryz.pinned (OpenSpec.ofChange agentCallsWrong)

/-- 'noonmarklaw14.AgentClock': WHATEVER THE INPUT: true; the input reads as it did. -/
def agentClockSpec : ChangeSpec := { name := "agentClock", fn := fun _ => fun
  | [d1, d2, d3] => { results := [.lit (.bool true)], args := [d1, d2, d3] }
  | _ => none }
def agentClockRow : OpenClaim := { program := "ytfbfpnfgabamfaagreat", sum := "e109eae26660b1bff3caf5f68d6ba81539b99479e4ec8f6b7947f2dd7d66fc9e", func := "noonmark/noonmarklaw14.AgentClock", spec := "agentClock", inPlace := ["internal/bytealg.IndexByteString", "internal/bytealg.MakeNoZero"], unfollowed := true, recurses := true, apart := false }
def AgentClockSaid : Prop := agentClockRow.holds Tryz.pinned (OpenSpec.ofChange agentClockSpec)

/-- ITS FALSE NEIGHBOUR: 'it returns false'. Refute it at one input. -/
def agentClockWrong : ChangeSpec := { name := "agentClock", fn := fun _ => fun
  | [d1, d2, d3] => { results := [.lit (.bool false)], args := [d1, d2, d3] }
  | _ => none }
def AgentClockWrongFalsely : Prop := agentClockRow.holds Tryz.pinned (OpenSpec.ofChange agentClockWrong)

/-- 'noonmarklaw14.AgentSends': WHATEVER THE INPUT: true; the input reads as it did. -/
def agentSendsSpec : ChangeSpec := { name := "agentSends", fn := fun _ => fun
  | [d1, d2, d3, d4] => { results := [.lit (.bool true)], args := [d1, d2, d3, d4] }
  | _ => none }
def agentSendsRow : OpenClaim := { program := "ytfbfpnfgabamfaagreat", sum := "e109eae26660b1bff3caf5f68d6ba81539b99479e4ec8f6b7947f2dd7d66fc9e", func := "noonmark/noonmarklaw14.AgentSends", spec := "agentSends", inPlace := ["internal/bytealg.IndexByteString", "internal/bytealg.MakeNoZero"], unfollowed := true, recurses := true, apart := false }
def AgentSendsSaid : Prop := agentSendsRow.holds Tryz.pinned (OpenSpec.ofChange agentSendsSpec)

/-- ITS FALSE NEIGHBOUR: 'it returns false'. Refute it at one input. -/
def agentSendsWrong : ChangeSpec := { name := "agentSends", fn := fun _ => fun
  | [d1, d2, d3, d4] => { results := [.lit (.bool false)], args := [d1, d2, d3, d4] }
  | _ => none }
def AgentSendsWrongFalsely : Prop := agentSendsRow.holds Tryz.pinned (OpenSpec.ofChange agentSendsWrong)

/-- 'noonmarklaw14.AgentAcks': WHATEVER THE INPUT: true; the input reads as it did. -/
def agentAcksSpec : ChangeSpec := { name := "agentAcks", fn := fun _ => fun
  | [d1, d2, d3, d4, d5] => { results := [.lit (.bool true)], args := [d1, d2, d3, d4, d5] }
  | _ => none }
def agentAcksRow : OpenClaim := { program := "ytfbfpnfgabamfaagreat", sum := "e109eae26660b1bff3caf5f68d6ba81539b99479e4ec8f6b7947f2dd7d66fc9e", func := "noonmark/noonmarklaw14.AgentAcks", spec := "agentAcks", inPlace := ["internal/bytealg.IndexByteString", "internal/bytealg.MakeNoZero"], unfollowed := true, recurses := true, apart := false }
def AgentAcksSaid : Prop := agentAcksRow.holds Tryz.pinned (OpenSpec.ofChange agentAcksSpec)

/-- ITS FALSE NEIGHBOUR: 'it returns false'. Refute it at one input. -/
def agentAcksWrong : ChangeSpec := { name := "agentAcks", fn := fun _ => fun
  | [d1, d2, d3, d4, d5] => { results := [.lit (.bool false)], args := [d1, d2, d3, d4, d5] }
  | _ => none }
def AgentAcksWrongFalsely : Prop := agentAcksRow.holds Tryz.pinned (OpenSpec.ofChange agentAcksWrong)

/-- 'noonmarklaw14.AgentAnew': WHATEVER THE INPUT: true; the input reads as it did. -/
def agentAnewSpec : ChangeSpec := { name := "agentAnew", fn := fun _ => fun
  | [d1, d2, d3, d4] => { results := [.lit (.bool true)], args := [d1, d2, d3, d4] }
  | _ => none }
def agentAnewRow : OpenClaim := { program := "ytfbfpnfgabamfaagreat", sum := "e109eae26660b1bff3caf5f68d6ba81539b99479e4ec8f6b7947f2dd7d66fc9e", func := "noonmark/noonmarklaw14.AgentAnew", spec := "agentAnew", inPlace := ["internal/bytealg.IndexByteString", "internal/bytealg.MakeNoZero"], unfollowed := true, recurses := true, apart := false }
def AgentAnewSaid : Prop := agentAnewRow.holds Tryz.pinned (OpenSpec.ofChange agentAnewSpec)

/-- ITS FALSE NEIGHBOUR: 'it returns false'. Refute it at one input. -/
def agentAnewWrong : ChangeSpec := { name := "agentAnew", fn := fun _ => fun
  | [d1, d2, d3, d4] => { results := [.lit (.bool false)], args := [d1, d2, d3, d4] }
  | _ => none }
def AgentAnewWrongFalsely : Prop := agentAnewRow.holds Tryz.pinned (OpenSpec.ofChange agentAnewWrong)

/- THE SECOND FORM. 'bulk': how many values and letters a reading holds, each counted each time it is reached (what is shared counts as often as it is met; a slice's spare places count too). A statement '..UptoSaid' is the law's where the arguments, and the package variables that the reading takes, are together of bulk at most 1048576: NARROWER than '..Said'. Prove '..Said' where nothing that the law and all that it calls make is longer than what came in: it says more and counts as full. Else prove '..UptoSaid'. A law counts once. -/
mutual
def uptoBulk {H : Type} : DataW H → Nat
  | .lit (.string bytes) => bytes.length + 1
  | .lit _ => 1
  | .nil => 1
  | .ptr d => uptoBulk d + 1
  | .slice elems spare => uptoBulkAll elems + uptoBulkAll spare + 1
  | .agg parts => uptoBulkAll parts + 1
  | .iface _ d => uptoBulk d + 1
  | .map entries => uptoBulkEntries entries + 1
  | .held _ => 1
def uptoBulkAll {H : Type} : List (DataW H) → Nat
  | [] => 0
  | d :: r => uptoBulk d + uptoBulkAll r
def uptoBulkEntries {H : Type} : List (Lit × DataW H) → Nat
  | [] => 0
  | x :: r => uptoBulkEntry x + uptoBulkEntries r
def uptoBulkEntry {H : Type} : Lit × DataW H → Nat
  | (.string bytes, d) => bytes.length + uptoBulk d + 1
  | (_, d) => uptoBulk d + 1
 end
def uptoSmall : (H : Type) → List (DataW H) → Bool := fun _ ds => decide (uptoBulkAll ds ≤ 1048576)
def OpenSpec.upto (s : _root_.Go.ChangeSpec) : _root_.Go.OpenSpec := { _root_.Go.OpenSpec.ofChange s with cond := some uptoSmall }

/-- 'noonmarklaw14.AgentCalls', WHERE WHAT IT READS IS OF BULK AT MOST 1048576: true; the input reads as it did. -/
def agentCallsUptoRow : OpenClaim := { program := "ytfbfpnfgabamfaagreat", sum := "e109eae26660b1bff3caf5f68d6ba81539b99479e4ec8f6b7947f2dd7d66fc9e", func := "noonmark/noonmarklaw14.AgentCalls", spec := "agentCalls", inPlace := ["internal/bytealg.IndexByteString", "internal/bytealg.MakeNoZero"], unfollowed := true, recurses := true, apart := false, narrowed := true }
def AgentCallsUptoSaid : Prop := agentCallsUptoRow.holds Tryz.pinned (OpenSpec.upto agentCallsSpec)

/-- 'noonmarklaw14.AgentClock', WHERE WHAT IT READS IS OF BULK AT MOST 1048576: true; the input reads as it did. -/
def agentClockUptoRow : OpenClaim := { program := "ytfbfpnfgabamfaagreat", sum := "e109eae26660b1bff3caf5f68d6ba81539b99479e4ec8f6b7947f2dd7d66fc9e", func := "noonmark/noonmarklaw14.AgentClock", spec := "agentClock", inPlace := ["internal/bytealg.IndexByteString", "internal/bytealg.MakeNoZero"], unfollowed := true, recurses := true, apart := false, narrowed := true }
def AgentClockUptoSaid : Prop := agentClockUptoRow.holds Tryz.pinned (OpenSpec.upto agentClockSpec)

/-- 'noonmarklaw14.AgentSends', WHERE WHAT IT READS IS OF BULK AT MOST 1048576: true; the input reads as it did. -/
def agentSendsUptoRow : OpenClaim := { program := "ytfbfpnfgabamfaagreat", sum := "e109eae26660b1bff3caf5f68d6ba81539b99479e4ec8f6b7947f2dd7d66fc9e", func := "noonmark/noonmarklaw14.AgentSends", spec := "agentSends", inPlace := ["internal/bytealg.IndexByteString", "internal/bytealg.MakeNoZero"], unfollowed := true, recurses := true, apart := false, narrowed := true }
def AgentSendsUptoSaid : Prop := agentSendsUptoRow.holds Tryz.pinned (OpenSpec.upto agentSendsSpec)

/-- 'noonmarklaw14.AgentAcks', WHERE WHAT IT READS IS OF BULK AT MOST 1048576: true; the input reads as it did. -/
def agentAcksUptoRow : OpenClaim := { program := "ytfbfpnfgabamfaagreat", sum := "e109eae26660b1bff3caf5f68d6ba81539b99479e4ec8f6b7947f2dd7d66fc9e", func := "noonmark/noonmarklaw14.AgentAcks", spec := "agentAcks", inPlace := ["internal/bytealg.IndexByteString", "internal/bytealg.MakeNoZero"], unfollowed := true, recurses := true, apart := false, narrowed := true }
def AgentAcksUptoSaid : Prop := agentAcksUptoRow.holds Tryz.pinned (OpenSpec.upto agentAcksSpec)

/-- 'noonmarklaw14.AgentAnew', WHERE WHAT IT READS IS OF BULK AT MOST 1048576: true; the input reads as it did. -/
def agentAnewUptoRow : OpenClaim := { program := "ytfbfpnfgabamfaagreat", sum := "e109eae26660b1bff3caf5f68d6ba81539b99479e4ec8f6b7947f2dd7d66fc9e", func := "noonmark/noonmarklaw14.AgentAnew", spec := "agentAnew", inPlace := ["internal/bytealg.IndexByteString", "internal/bytealg.MakeNoZero"], unfollowed := true, recurses := true, apart := false, narrowed := true }
def AgentAnewUptoSaid : Prop := agentAnewUptoRow.holds Tryz.pinned (OpenSpec.upto agentAnewSpec)

end Rows
end Go.Proofs.YtfbfpnfgabamfaaGreat
