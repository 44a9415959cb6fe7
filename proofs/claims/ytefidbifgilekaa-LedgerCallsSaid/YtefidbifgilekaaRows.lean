/-
  No cell of these rows narrows 'for every input' (looked for: loops, veiled, ifaces, maps, wideKeys, modest, calm, conditions, laid).
  DERIVED. THE GIVEN ROWS OF THIS SEAT. 7 by the template 'for every input the law returns true; each argument reads behind the call as it read before'; 0 by the template 'total and deterministic' (their statements: YtefidbifgilekaaTotals.lean).
  GIVEN WITH THE SEED: the statements are not yours to turn. If you find one false, say at which input.
  Laid BY PROGRAM, IN A SANDBOX (cutbox-rows.mjs): the forced cells as the released guide's own fill.sh prints them over the translation 123ae98b92c319d9… (all of the seat's roots in one cut). By AI agents, Wed Nov 11 2026. No macro, syntax, notation, axiom, sorry.
-/
import Derived.Test.YtefidbifgilekaaChecked
import GoSem.Claim
import GoSem.ClaimJoined
import GoSem.ClaimMapViews
import Derived.JoinedTies
import Derived.KernelRfl
namespace Go.Proofs.Ytefidbifgilekaa
/- THE CELL 'sum', in the pinned program and in every row, IS THE sha256 OF THE DUMP (.gsa) THAT YtefidbifgilekaaProg.lean LOADS. Nothing in Lean hashes anything: it is a label: what it is worth is what the hold of that sum in a sandbox is worth. -/
noncomputable def Try.pinned : Pinned := { name := "ytefidbifgilekaa", sum := "123ae98b92c319d9933c12117e48f5a1bf01b096369eede6856ef2a7cb798533", checked := Try.checked }
namespace Rows
def none {H : Type} : Left H := { results := [], args := [] }

/-- 'noonmarklaw23.LedgerCalls': WHATEVER THE INPUT: true; the input reads as it did. -/
def ledgerCallsSpec : ChangeSpec := { name := "ledgerCalls", fn := fun _ => fun
  | [d1, d2, d3] => { results := [.lit (.bool true)], args := [d1, d2, d3] }
  | _ => none }
def ledgerCallsRow : OpenClaim := { program := "ytefidbifgilekaa", sum := "123ae98b92c319d9933c12117e48f5a1bf01b096369eede6856ef2a7cb798533", func := "noonmark/noonmarklaw23.LedgerCalls", spec := "ledgerCalls", inPlace := ["maps.clone"], unfollowed := true, recurses := true, plainKeys := false, apart := false }
def LedgerCallsSaid : Prop := ledgerCallsRow.holds Try.pinned (OpenSpec.ofChange ledgerCallsSpec)

/-- ITS FALSE NEIGHBOUR: 'it returns false'. Refute it at one input. -/
def ledgerCallsWrong : ChangeSpec := { name := "ledgerCalls", fn := fun _ => fun
  | [d1, d2, d3] => { results := [.lit (.bool false)], args := [d1, d2, d3] }
  | _ => none }
def LedgerCallsWrongFalsely : Prop := ledgerCallsRow.holds Try.pinned (OpenSpec.ofChange ledgerCallsWrong)

/-- 'noonmarklaw23.LedgerOnce': WHATEVER THE INPUT: true; the input reads as it did. -/
def ledgerOnceSpec : ChangeSpec := { name := "ledgerOnce", fn := fun _ => fun
  | [d1, d2] => { results := [.lit (.bool true)], args := [d1, d2] }
  | _ => none }
def ledgerOnceRow : OpenClaim := { program := "ytefidbifgilekaa", sum := "123ae98b92c319d9933c12117e48f5a1bf01b096369eede6856ef2a7cb798533", func := "noonmark/noonmarklaw23.LedgerOnce", spec := "ledgerOnce", inPlace := ["maps.clone"], unfollowed := true, recurses := true, plainKeys := false, apart := false }
def LedgerOnceSaid : Prop := ledgerOnceRow.holds Try.pinned (OpenSpec.ofChange ledgerOnceSpec)

/-- ITS FALSE NEIGHBOUR: 'it returns false'. Refute it at one input. -/
def ledgerOnceWrong : ChangeSpec := { name := "ledgerOnce", fn := fun _ => fun
  | [d1, d2] => { results := [.lit (.bool false)], args := [d1, d2] }
  | _ => none }
def LedgerOnceWrongFalsely : Prop := ledgerOnceRow.holds Try.pinned (OpenSpec.ofChange ledgerOnceWrong)

/-- 'noonmarklaw23.LedgerSums': WHATEVER THE INPUT: true; the input reads as it did. -/
def ledgerSumsSpec : ChangeSpec := { name := "ledgerSums", fn := fun _ => fun
  | [d] => { results := [.lit (.bool true)], args := [d] }
  | _ => none }
def ledgerSumsRow : OpenClaim := { program := "ytefidbifgilekaa", sum := "123ae98b92c319d9933c12117e48f5a1bf01b096369eede6856ef2a7cb798533", func := "noonmark/noonmarklaw23.LedgerSums", spec := "ledgerSums", inPlace := ["maps.clone"], unfollowed := true, recurses := true, plainKeys := false, apart := false }
def LedgerSumsSaid : Prop := ledgerSumsRow.holds Try.pinned (OpenSpec.ofChange ledgerSumsSpec)

/-- ITS FALSE NEIGHBOUR: 'it returns false'. Refute it at one input. -/
def ledgerSumsWrong : ChangeSpec := { name := "ledgerSums", fn := fun _ => fun
  | [d] => { results := [.lit (.bool false)], args := [d] }
  | _ => none }
def LedgerSumsWrongFalsely : Prop := ledgerSumsRow.holds Try.pinned (OpenSpec.ofChange ledgerSumsWrong)

/-- 'noonmarklaw17.SweepAnswers': WHATEVER THE INPUT: true; the input reads as it did. -/
def sweepAnswersSpec : ChangeSpec := { name := "sweepAnswers", fn := fun _ => fun
  | [d1, d2, d3] => { results := [.lit (.bool true)], args := [d1, d2, d3] }
  | _ => none }
def sweepAnswersRow : OpenClaim := { program := "ytefidbifgilekaa", sum := "123ae98b92c319d9933c12117e48f5a1bf01b096369eede6856ef2a7cb798533", func := "noonmark/noonmarklaw17.SweepAnswers", spec := "sweepAnswers", unfollowed := true, recurses := true, plainKeys := false, apart := false }
def SweepAnswersSaid : Prop := sweepAnswersRow.holds Try.pinned (OpenSpec.ofChange sweepAnswersSpec)

/-- ITS FALSE NEIGHBOUR: 'it returns false'. Refute it at one input. -/
def sweepAnswersWrong : ChangeSpec := { name := "sweepAnswers", fn := fun _ => fun
  | [d1, d2, d3] => { results := [.lit (.bool false)], args := [d1, d2, d3] }
  | _ => none }
def SweepAnswersWrongFalsely : Prop := sweepAnswersRow.holds Try.pinned (OpenSpec.ofChange sweepAnswersWrong)

/-- 'noonmarklaw17.SweepTurns': WHATEVER THE INPUT: true; the input reads as it did. -/
def sweepTurnsSpec : ChangeSpec := { name := "sweepTurns", fn := fun _ => fun
  | [d1, d2, d3] => { results := [.lit (.bool true)], args := [d1, d2, d3] }
  | _ => none }
def sweepTurnsRow : OpenClaim := { program := "ytefidbifgilekaa", sum := "123ae98b92c319d9933c12117e48f5a1bf01b096369eede6856ef2a7cb798533", func := "noonmark/noonmarklaw17.SweepTurns", spec := "sweepTurns", unfollowed := true, recurses := true, plainKeys := false, apart := false }
def SweepTurnsSaid : Prop := sweepTurnsRow.holds Try.pinned (OpenSpec.ofChange sweepTurnsSpec)

/-- ITS FALSE NEIGHBOUR: 'it returns false'. Refute it at one input. -/
def sweepTurnsWrong : ChangeSpec := { name := "sweepTurns", fn := fun _ => fun
  | [d1, d2, d3] => { results := [.lit (.bool false)], args := [d1, d2, d3] }
  | _ => none }
def SweepTurnsWrongFalsely : Prop := sweepTurnsRow.holds Try.pinned (OpenSpec.ofChange sweepTurnsWrong)

/-- 'noonmarklaw17.SweepTruth': WHATEVER THE INPUT: true; the input reads as it did. -/
def sweepTruthSpec : ChangeSpec := { name := "sweepTruth", fn := fun _ => fun
  | [d1, d2, d3] => { results := [.lit (.bool true)], args := [d1, d2, d3] }
  | _ => none }
def sweepTruthRow : OpenClaim := { program := "ytefidbifgilekaa", sum := "123ae98b92c319d9933c12117e48f5a1bf01b096369eede6856ef2a7cb798533", func := "noonmark/noonmarklaw17.SweepTruth", spec := "sweepTruth", unfollowed := true, recurses := true, plainKeys := false, apart := false }
def SweepTruthSaid : Prop := sweepTruthRow.holds Try.pinned (OpenSpec.ofChange sweepTruthSpec)

/-- ITS FALSE NEIGHBOUR: 'it returns false'. Refute it at one input. -/
def sweepTruthWrong : ChangeSpec := { name := "sweepTruth", fn := fun _ => fun
  | [d1, d2, d3] => { results := [.lit (.bool false)], args := [d1, d2, d3] }
  | _ => none }
def SweepTruthWrongFalsely : Prop := sweepTruthRow.holds Try.pinned (OpenSpec.ofChange sweepTruthWrong)

/-- 'noonmarklaw17.SweepMost': WHATEVER THE INPUT: true; the input reads as it did. -/
def sweepMostSpec : ChangeSpec := { name := "sweepMost", fn := fun _ => fun
  | [d1, d2] => { results := [.lit (.bool true)], args := [d1, d2] }
  | _ => none }
def sweepMostRow : OpenClaim := { program := "ytefidbifgilekaa", sum := "123ae98b92c319d9933c12117e48f5a1bf01b096369eede6856ef2a7cb798533", func := "noonmark/noonmarklaw17.SweepMost", spec := "sweepMost", unfollowed := true, recurses := true, plainKeys := false, apart := false }
def SweepMostSaid : Prop := sweepMostRow.holds Try.pinned (OpenSpec.ofChange sweepMostSpec)

/-- ITS FALSE NEIGHBOUR: 'it returns false'. Refute it at one input. -/
def sweepMostWrong : ChangeSpec := { name := "sweepMost", fn := fun _ => fun
  | [d1, d2] => { results := [.lit (.bool false)], args := [d1, d2] }
  | _ => none }
def SweepMostWrongFalsely : Prop := sweepMostRow.holds Try.pinned (OpenSpec.ofChange sweepMostWrong)

/- THE SECOND FORM. 'bulk': how many values and letters a reading holds, each counted each time it is reached (what is shared counts as often as it is met; a slice's spare places count too). A statement '..UptoSaid' is the law's where the arguments, and the package variables that the reading takes, are together of bulk at most 1048576: NARROWER than '..Said'. Prove '..Said' where nothing that the law and all that it calls make is longer than what came in: it says more and counts as full. Else prove '..UptoSaid'. A law counts once. -/
mutual
def uptoBulk {H : Type} : DataW H → Nat
  | .lit (.string bytes) => bytes.length + 1
  | .lit _ => 1
  | .nil => 1
  | .ptr d => uptoBulk d + 1
  | .slice elems spare => uptoBulkAll elems + uptoBulkAll spare + 1
  | .agg parts => uptoBulkAll parts + 1
  | .iface _ d => uptoBulk d + 1
  | .map entries => uptoBulkEntries entries + 1
  | .held _ => 1
def uptoBulkAll {H : Type} : List (DataW H) → Nat
  | [] => 0
  | d :: r => uptoBulk d + uptoBulkAll r
def uptoBulkEntries {H : Type} : List (Lit × DataW H) → Nat
  | [] => 0
  | x :: r => uptoBulkEntry x + uptoBulkEntries r
def uptoBulkEntry {H : Type} : Lit × DataW H → Nat
  | (.string bytes, d) => bytes.length + uptoBulk d + 1
  | (_, d) => uptoBulk d + 1
 end
def uptoSmall : (H : Type) → List (DataW H) → Bool := fun _ ds => decide (uptoBulkAll ds ≤ 1048576)
def OpenSpec.upto (s : _root_.Go.ChangeSpec) : _root_.Go.OpenSpec := { _root_.Go.OpenSpec.ofChange s with cond := some uptoSmall }

/-- 'noonmarklaw23.LedgerCalls', WHERE WHAT IT READS IS OF BULK AT MOST 1048576: true; the input reads as it did. -/
def ledgerCallsUptoRow : OpenClaim := { program := "ytefidbifgilekaa", sum := "123ae98b92c319d9933c12117e48f5a1bf01b096369eede6856ef2a7cb798533", func := "noonmark/noonmarklaw23.LedgerCalls", spec := "ledgerCalls", inPlace := ["maps.clone"], unfollowed := true, recurses := true, plainKeys := false, apart := false, narrowed := true }
def LedgerCallsUptoSaid : Prop := ledgerCallsUptoRow.holds Try.pinned (OpenSpec.upto ledgerCallsSpec)

/-- 'noonmarklaw23.LedgerOnce', WHERE WHAT IT READS IS OF BULK AT MOST 1048576: true; the input reads as it did. -/
def ledgerOnceUptoRow : OpenClaim := { program := "ytefidbifgilekaa", sum := "123ae98b92c319d9933c12117e48f5a1bf01b096369eede6856ef2a7cb798533", func := "noonmark/noonmarklaw23.LedgerOnce", spec := "ledgerOnce", inPlace := ["maps.clone"], unfollowed := true, recurses := true, plainKeys := false, apart := false, narrowed := true }
def LedgerOnceUptoSaid : Prop := ledgerOnceUptoRow.holds Try.pinned (OpenSpec.upto ledgerOnceSpec)

/-- 'noonmarklaw23.LedgerSums', WHERE WHAT IT READS IS OF BULK AT MOST 1048576: true; the input reads as it did. -/
def ledgerSumsUptoRow : OpenClaim := { program := "ytefidbifgilekaa", sum := "123ae98b92c319d9933c12117e48f5a1bf01b096369eede6856ef2a7cb798533", func := "noonmark/noonmarklaw23.LedgerSums", spec := "ledgerSums", inPlace := ["maps.clone"], unfollowed := true, recurses := true, plainKeys := false, apart := false, narrowed := true }
def LedgerSumsUptoSaid : Prop := ledgerSumsUptoRow.holds Try.pinned (OpenSpec.upto ledgerSumsSpec)

/-- 'noonmarklaw17.SweepAnswers', WHERE WHAT IT READS IS OF BULK AT MOST 1048576: true; the input reads as it did. -/
def sweepAnswersUptoRow : OpenClaim := { program := "ytefidbifgilekaa", sum := "123ae98b92c319d9933c12117e48f5a1bf01b096369eede6856ef2a7cb798533", func := "noonmark/noonmarklaw17.SweepAnswers", spec := "sweepAnswers", unfollowed := true, recurses := true, plainKeys := false, apart := false, narrowed := true }
def SweepAnswersUptoSaid : Prop := sweepAnswersUptoRow.holds Try.pinned (OpenSpec.upto sweepAnswersSpec)

/-- 'noonmarklaw17.SweepTurns', WHERE WHAT IT READS IS OF BULK AT MOST 1048576: true; the input reads as it did. -/
def sweepTurnsUptoRow : OpenClaim := { program := "ytefidbifgilekaa", sum := "123ae98b92c319d9933c12117e48f5a1bf01b096369eede6856ef2a7cb798533", func := "noonmark/noonmarklaw17.SweepTurns", spec := "sweepTurns", unfollowed := true, recurses := true, plainKeys := false, apart := false, narrowed := true }
def SweepTurnsUptoSaid : Prop := sweepTurnsUptoRow.holds Try.pinned (OpenSpec.upto sweepTurnsSpec)

/-- 'noonmarklaw17.SweepTruth', WHERE WHAT IT READS IS OF BULK AT MOST 1048576: true; the input reads as it did. -/
def sweepTruthUptoRow : OpenClaim := { program := "ytefidbifgilekaa", sum := "123ae98b92c319d9933c12117e48f5a1bf01b096369eede6856ef2a7cb798533", func := "noonmark/noonmarklaw17.SweepTruth", spec := "sweepTruth", unfollowed := true, recurses := true, plainKeys := false, apart := false, narrowed := true }
def SweepTruthUptoSaid : Prop := sweepTruthUptoRow.holds Try.pinned (OpenSpec.upto sweepTruthSpec)

/-- 'noonmarklaw17.SweepMost', WHERE WHAT IT READS IS OF BULK AT MOST 1048576: true; the input reads as it did. -/
def sweepMostUptoRow : OpenClaim := { program := "ytefidbifgilekaa", sum := "123ae98b92c319d9933c12117e48f5a1bf01b096369eede6856ef2a7cb798533", func := "noonmark/noonmarklaw17.SweepMost", spec := "sweepMost", unfollowed := true, recurses := true, plainKeys := false, apart := false, narrowed := true }
def SweepMostUptoSaid : Prop := sweepMostUptoRow.holds Try.pinned (OpenSpec.upto sweepMostSpec)

end Rows
end Go.Proofs.Ytefidbifgilekaa
