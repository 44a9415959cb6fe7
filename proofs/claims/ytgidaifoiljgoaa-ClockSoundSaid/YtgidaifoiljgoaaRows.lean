/-
  No cell of these rows narrows 'for every input' (looked for: loops, veiled, ifaces, maps, wideKeys, modest, calm, conditions, laid).
  DERIVED. THE GIVEN ROWS OF THIS SEAT. 9 by the template 'for every input the law returns true; each argument reads behind the call as it read before'; 0 by the template 'total and deterministic' (their statements: YtgidaifoiljgoaaTotals.lean).
  GIVEN WITH THE SEED: the statements are not yours to turn. If you find one false, say at which input.
  Laid BY PROGRAM, IN A SANDBOX (cutbox-rows.mjs): the forced cells as the released guide's own fill.sh prints them over the translation 10ee72f67fbbbcf5… (all of the seat's roots in one cut). By AI agents, Wed Nov 11 2026. No macro, syntax, notation, axiom, sorry.
-/
import Derived.Test.YtgidaifoiljgoaaChecked
import GoSem.Claim
import GoSem.ClaimJoined
import GoSem.ClaimMapViews
import Derived.JoinedTies
import Derived.KernelRfl
namespace Go.Proofs.Ytgidaifoiljgoaa
/- THE CELL 'sum', in the pinned program and in every row, IS THE sha256 OF THE DUMP (.gsa) THAT YtgidaifoiljgoaaProg.lean LOADS. Nothing in Lean hashes anything: it is a label: what it is worth is what the hold of that sum in a sandbox is worth. -/
noncomputable def Try.pinned : Pinned := { name := "ytgidaifoiljgoaa", sum := "10ee72f67fbbbcf5bb91a3daf97eac3b97a6bceae5033edee8714874d383e86c", checked := Try.checked }
namespace Rows
def none {H : Type} : Left H := { results := [], args := [] }

/-- 'noonmarklaw18.ClockCalls': WHATEVER THE INPUT: true; the input reads as it did. -/
def clockCallsSpec : ChangeSpec := { name := "clockCalls", fn := fun _ => fun
  | [d1, d2, d3, d4] => { results := [.lit (.bool true)], args := [d1, d2, d3, d4] }
  | _ => none }
def clockCallsRow : OpenClaim := { program := "ytgidaifoiljgoaa", sum := "10ee72f67fbbbcf5bb91a3daf97eac3b97a6bceae5033edee8714874d383e86c", func := "noonmark/noonmarklaw18.ClockCalls", spec := "clockCalls", unfollowed := true, recurses := true, named := ["math/bits.divideError", "math/bits.overflowError"], apart := false }
def ClockCallsSaid : Prop := clockCallsRow.holds Try.pinned (OpenSpec.ofChange clockCallsSpec)

/-- ITS FALSE NEIGHBOUR: 'it returns false'. Refute it at one input. -/
def clockCallsWrong : ChangeSpec := { name := "clockCalls", fn := fun _ => fun
  | [d1, d2, d3, d4] => { results := [.lit (.bool false)], args := [d1, d2, d3, d4] }
  | _ => none }
def ClockCallsWrongFalsely : Prop := clockCallsRow.holds Try.pinned (OpenSpec.ofChange clockCallsWrong)

/-- 'noonmarklaw18.ClockRises': WHATEVER THE INPUT: true; the input reads as it did. -/
def clockRisesSpec : ChangeSpec := { name := "clockRises", fn := fun _ => fun
  | [d1, d2, d3, d4] => { results := [.lit (.bool true)], args := [d1, d2, d3, d4] }
  | _ => none }
def clockRisesRow : OpenClaim := { program := "ytgidaifoiljgoaa", sum := "10ee72f67fbbbcf5bb91a3daf97eac3b97a6bceae5033edee8714874d383e86c", func := "noonmark/noonmarklaw18.ClockRises", spec := "clockRises", unfollowed := true, recurses := true, named := ["math/bits.divideError", "math/bits.overflowError"], apart := false }
def ClockRisesSaid : Prop := clockRisesRow.holds Try.pinned (OpenSpec.ofChange clockRisesSpec)

/-- ITS FALSE NEIGHBOUR: 'it returns false'. Refute it at one input. -/
def clockRisesWrong : ChangeSpec := { name := "clockRises", fn := fun _ => fun
  | [d1, d2, d3, d4] => { results := [.lit (.bool false)], args := [d1, d2, d3, d4] }
  | _ => none }
def ClockRisesWrongFalsely : Prop := clockRisesRow.holds Try.pinned (OpenSpec.ofChange clockRisesWrong)

/-- 'noonmarklaw18.ClockTrusts': WHATEVER THE INPUT: true; the input reads as it did. -/
def clockTrustsSpec : ChangeSpec := { name := "clockTrusts", fn := fun _ => fun
  | [d1, d2, d3] => { results := [.lit (.bool true)], args := [d1, d2, d3] }
  | _ => none }
def clockTrustsRow : OpenClaim := { program := "ytgidaifoiljgoaa", sum := "10ee72f67fbbbcf5bb91a3daf97eac3b97a6bceae5033edee8714874d383e86c", func := "noonmark/noonmarklaw18.ClockTrusts", spec := "clockTrusts", unfollowed := true, recurses := true, named := ["math/bits.divideError", "math/bits.overflowError"], apart := false }
def ClockTrustsSaid : Prop := clockTrustsRow.holds Try.pinned (OpenSpec.ofChange clockTrustsSpec)

/-- ITS FALSE NEIGHBOUR: 'it returns false'. Refute it at one input. -/
def clockTrustsWrong : ChangeSpec := { name := "clockTrusts", fn := fun _ => fun
  | [d1, d2, d3] => { results := [.lit (.bool false)], args := [d1, d2, d3] }
  | _ => none }
def ClockTrustsWrongFalsely : Prop := clockTrustsRow.holds Try.pinned (OpenSpec.ofChange clockTrustsWrong)

/-- 'noonmarklaw18.ClockMeets': WHATEVER THE INPUT: true; the input reads as it did. -/
def clockMeetsSpec : ChangeSpec := { name := "clockMeets", fn := fun _ => fun
  | [d1, d2, d3, d4] => { results := [.lit (.bool true)], args := [d1, d2, d3, d4] }
  | _ => none }
def clockMeetsRow : OpenClaim := { program := "ytgidaifoiljgoaa", sum := "10ee72f67fbbbcf5bb91a3daf97eac3b97a6bceae5033edee8714874d383e86c", func := "noonmark/noonmarklaw18.ClockMeets", spec := "clockMeets", unfollowed := true, recurses := true, named := ["math/bits.divideError", "math/bits.overflowError"], apart := false }
def ClockMeetsSaid : Prop := clockMeetsRow.holds Try.pinned (OpenSpec.ofChange clockMeetsSpec)

/-- ITS FALSE NEIGHBOUR: 'it returns false'. Refute it at one input. -/
def clockMeetsWrong : ChangeSpec := { name := "clockMeets", fn := fun _ => fun
  | [d1, d2, d3, d4] => { results := [.lit (.bool false)], args := [d1, d2, d3, d4] }
  | _ => none }
def ClockMeetsWrongFalsely : Prop := clockMeetsRow.holds Try.pinned (OpenSpec.ofChange clockMeetsWrong)

/-- 'noonmarklaw18.ClockWidth': WHATEVER THE INPUT: true; the input reads as it did. -/
def clockWidthSpec : ChangeSpec := { name := "clockWidth", fn := fun _ => fun
  | [d1, d2, d3] => { results := [.lit (.bool true)], args := [d1, d2, d3] }
  | _ => none }
def clockWidthRow : OpenClaim := { program := "ytgidaifoiljgoaa", sum := "10ee72f67fbbbcf5bb91a3daf97eac3b97a6bceae5033edee8714874d383e86c", func := "noonmark/noonmarklaw18.ClockWidth", spec := "clockWidth", unfollowed := true, recurses := true, named := ["math/bits.divideError", "math/bits.overflowError"], apart := false }
def ClockWidthSaid : Prop := clockWidthRow.holds Try.pinned (OpenSpec.ofChange clockWidthSpec)

/-- ITS FALSE NEIGHBOUR: 'it returns false'. Refute it at one input. -/
def clockWidthWrong : ChangeSpec := { name := "clockWidth", fn := fun _ => fun
  | [d1, d2, d3] => { results := [.lit (.bool false)], args := [d1, d2, d3] }
  | _ => none }
def ClockWidthWrongFalsely : Prop := clockWidthRow.holds Try.pinned (OpenSpec.ofChange clockWidthWrong)

/-- 'noonmarklaw04.DriftRises': WHATEVER THE INPUT: true; the input reads as it did. -/
def driftRisesSpec : ChangeSpec := { name := "driftRises", fn := fun _ => fun
  | [d1, d2, d3] => { results := [.lit (.bool true)], args := [d1, d2, d3] }
  | _ => none }
def driftRisesRow : OpenClaim := { program := "ytgidaifoiljgoaa", sum := "10ee72f67fbbbcf5bb91a3daf97eac3b97a6bceae5033edee8714874d383e86c", func := "noonmark/noonmarklaw04.DriftRises", spec := "driftRises", inPlace := ["math/bits.Sub64"], unfollowed := true, recurses := true, named := ["math/bits.divideError", "math/bits.overflowError"], apart := false }
def DriftRisesSaid : Prop := driftRisesRow.holds Try.pinned (OpenSpec.ofChange driftRisesSpec)

/-- ITS FALSE NEIGHBOUR: 'it returns false'. Refute it at one input. -/
def driftRisesWrong : ChangeSpec := { name := "driftRises", fn := fun _ => fun
  | [d1, d2, d3] => { results := [.lit (.bool false)], args := [d1, d2, d3] }
  | _ => none }
def DriftRisesWrongFalsely : Prop := driftRisesRow.holds Try.pinned (OpenSpec.ofChange driftRisesWrong)

/-- 'noonmarklaw04.DriftSound': WHATEVER THE INPUT: true; the input reads as it did. -/
def driftSoundSpec : ChangeSpec := { name := "driftSound", fn := fun _ => fun
  | [d1, d2] => { results := [.lit (.bool true)], args := [d1, d2] }
  | _ => none }
def driftSoundRow : OpenClaim := { program := "ytgidaifoiljgoaa", sum := "10ee72f67fbbbcf5bb91a3daf97eac3b97a6bceae5033edee8714874d383e86c", func := "noonmark/noonmarklaw04.DriftSound", spec := "driftSound", inPlace := ["math/bits.Sub64"], unfollowed := true, recurses := true, named := ["math/bits.divideError", "math/bits.overflowError"], apart := false }
def DriftSoundSaid : Prop := driftSoundRow.holds Try.pinned (OpenSpec.ofChange driftSoundSpec)

/-- ITS FALSE NEIGHBOUR: 'it returns false'. Refute it at one input. -/
def driftSoundWrong : ChangeSpec := { name := "driftSound", fn := fun _ => fun
  | [d1, d2] => { results := [.lit (.bool false)], args := [d1, d2] }
  | _ => none }
def DriftSoundWrongFalsely : Prop := driftSoundRow.holds Try.pinned (OpenSpec.ofChange driftSoundWrong)

/-- 'noonmarklaw04.DriftRates': WHATEVER THE INPUT: true; the input reads as it did. -/
def driftRatesSpec : ChangeSpec := { name := "driftRates", fn := fun _ => fun
  | [d1, d2, d3, d4] => { results := [.lit (.bool true)], args := [d1, d2, d3, d4] }
  | _ => none }
def driftRatesRow : OpenClaim := { program := "ytgidaifoiljgoaa", sum := "10ee72f67fbbbcf5bb91a3daf97eac3b97a6bceae5033edee8714874d383e86c", func := "noonmark/noonmarklaw04.DriftRates", spec := "driftRates", inPlace := ["math/bits.Sub64"], unfollowed := true, recurses := true, named := ["math/bits.divideError", "math/bits.overflowError"], apart := false }
def DriftRatesSaid : Prop := driftRatesRow.holds Try.pinned (OpenSpec.ofChange driftRatesSpec)

/-- ITS FALSE NEIGHBOUR: 'it returns false'. Refute it at one input. -/
def driftRatesWrong : ChangeSpec := { name := "driftRates", fn := fun _ => fun
  | [d1, d2, d3, d4] => { results := [.lit (.bool false)], args := [d1, d2, d3, d4] }
  | _ => none }
def DriftRatesWrongFalsely : Prop := driftRatesRow.holds Try.pinned (OpenSpec.ofChange driftRatesWrong)

/-- 'noonmarklaw18.ClockSound': WHATEVER THE INPUT: true; the input reads as it did. -/
def clockSoundSpec : ChangeSpec := { name := "clockSound", fn := fun _ => fun
  | [d1, d2, d3] => { results := [.lit (.bool true)], args := [d1, d2, d3] }
  | _ => none }
def clockSoundRow : OpenClaim := { program := "ytgidaifoiljgoaa", sum := "10ee72f67fbbbcf5bb91a3daf97eac3b97a6bceae5033edee8714874d383e86c", func := "noonmark/noonmarklaw18.ClockSound", spec := "clockSound", inPlace := ["math/bits.Sub64"], unfollowed := true, recurses := true, named := ["math/bits.divideError", "math/bits.overflowError"], apart := false }
def ClockSoundSaid : Prop := clockSoundRow.holds Try.pinned (OpenSpec.ofChange clockSoundSpec)

/-- ITS FALSE NEIGHBOUR: 'it returns false'. Refute it at one input. -/
def clockSoundWrong : ChangeSpec := { name := "clockSound", fn := fun _ => fun
  | [d1, d2, d3] => { results := [.lit (.bool false)], args := [d1, d2, d3] }
  | _ => none }
def ClockSoundWrongFalsely : Prop := clockSoundRow.holds Try.pinned (OpenSpec.ofChange clockSoundWrong)

/- THE SECOND FORM. 'bulk': how many values and letters a reading holds, each counted each time it is reached (what is shared counts as often as it is met; a slice's spare places count too). A statement '..UptoSaid' is the law's where the arguments, and the package variables that the reading takes, are together of bulk at most 1048576: NARROWER than '..Said'. Prove '..Said' where nothing that the law and all that it calls make is longer than what came in: it says more and counts as full. Else prove '..UptoSaid'. A law counts once. -/
mutual
def uptoBulk {H : Type} : DataW H → Nat
  | .lit (.string bytes) => bytes.length + 1
  | .lit _ => 1
  | .nil => 1
  | .ptr d => uptoBulk d + 1
  | .slice elems spare => uptoBulkAll elems + uptoBulkAll spare + 1
  | .agg parts => uptoBulkAll parts + 1
  | .iface _ d => uptoBulk d + 1
  | .map entries => uptoBulkEntries entries + 1
  | .held _ => 1
def uptoBulkAll {H : Type} : List (DataW H) → Nat
  | [] => 0
  | d :: r => uptoBulk d + uptoBulkAll r
def uptoBulkEntries {H : Type} : List (Lit × DataW H) → Nat
  | [] => 0
  | x :: r => uptoBulkEntry x + uptoBulkEntries r
def uptoBulkEntry {H : Type} : Lit × DataW H → Nat
  | (.string bytes, d) => bytes.length + uptoBulk d + 1
  | (_, d) => uptoBulk d + 1
 end
def uptoSmall : (H : Type) → List (DataW H) → Bool := fun _ ds => decide (uptoBulkAll ds ≤ 1048576)
def OpenSpec.upto (s : _root_.Go.ChangeSpec) : _root_.Go.OpenSpec := { _root_.Go.OpenSpec.ofChange s with cond := some uptoSmall }

/-- 'noonmarklaw18.ClockCalls', WHERE WHAT IT READS IS OF BULK AT MOST 1048576: true; the input reads as it did. -/
def clockCallsUptoRow : OpenClaim := { program := "ytgidaifoiljgoaa", sum := "10ee72f67fbbbcf5bb91a3daf97eac3b97a6bceae5033edee8714874d383e86c", func := "noonmark/noonmarklaw18.ClockCalls", spec := "clockCalls", unfollowed := true, recurses := true, named := ["math/bits.divideError", "math/bits.overflowError"], apart := false, narrowed := true }
def ClockCallsUptoSaid : Prop := clockCallsUptoRow.holds Try.pinned (OpenSpec.upto clockCallsSpec)

/-- 'noonmarklaw18.ClockRises', WHERE WHAT IT READS IS OF BULK AT MOST 1048576: true; the input reads as it did. -/
def clockRisesUptoRow : OpenClaim := { program := "ytgidaifoiljgoaa", sum := "10ee72f67fbbbcf5bb91a3daf97eac3b97a6bceae5033edee8714874d383e86c", func := "noonmark/noonmarklaw18.ClockRises", spec := "clockRises", unfollowed := true, recurses := true, named := ["math/bits.divideError", "math/bits.overflowError"], apart := false, narrowed := true }
def ClockRisesUptoSaid : Prop := clockRisesUptoRow.holds Try.pinned (OpenSpec.upto clockRisesSpec)

/-- 'noonmarklaw18.ClockTrusts', WHERE WHAT IT READS IS OF BULK AT MOST 1048576: true; the input reads as it did. -/
def clockTrustsUptoRow : OpenClaim := { program := "ytgidaifoiljgoaa", sum := "10ee72f67fbbbcf5bb91a3daf97eac3b97a6bceae5033edee8714874d383e86c", func := "noonmark/noonmarklaw18.ClockTrusts", spec := "clockTrusts", unfollowed := true, recurses := true, named := ["math/bits.divideError", "math/bits.overflowError"], apart := false, narrowed := true }
def ClockTrustsUptoSaid : Prop := clockTrustsUptoRow.holds Try.pinned (OpenSpec.upto clockTrustsSpec)

/-- 'noonmarklaw18.ClockMeets', WHERE WHAT IT READS IS OF BULK AT MOST 1048576: true; the input reads as it did. -/
def clockMeetsUptoRow : OpenClaim := { program := "ytgidaifoiljgoaa", sum := "10ee72f67fbbbcf5bb91a3daf97eac3b97a6bceae5033edee8714874d383e86c", func := "noonmark/noonmarklaw18.ClockMeets", spec := "clockMeets", unfollowed := true, recurses := true, named := ["math/bits.divideError", "math/bits.overflowError"], apart := false, narrowed := true }
def ClockMeetsUptoSaid : Prop := clockMeetsUptoRow.holds Try.pinned (OpenSpec.upto clockMeetsSpec)

/-- 'noonmarklaw18.ClockWidth', WHERE WHAT IT READS IS OF BULK AT MOST 1048576: true; the input reads as it did. -/
def clockWidthUptoRow : OpenClaim := { program := "ytgidaifoiljgoaa", sum := "10ee72f67fbbbcf5bb91a3daf97eac3b97a6bceae5033edee8714874d383e86c", func := "noonmark/noonmarklaw18.ClockWidth", spec := "clockWidth", unfollowed := true, recurses := true, named := ["math/bits.divideError", "math/bits.overflowError"], apart := false, narrowed := true }
def ClockWidthUptoSaid : Prop := clockWidthUptoRow.holds Try.pinned (OpenSpec.upto clockWidthSpec)

/-- 'noonmarklaw04.DriftRises', WHERE WHAT IT READS IS OF BULK AT MOST 1048576: true; the input reads as it did. -/
def driftRisesUptoRow : OpenClaim := { program := "ytgidaifoiljgoaa", sum := "10ee72f67fbbbcf5bb91a3daf97eac3b97a6bceae5033edee8714874d383e86c", func := "noonmark/noonmarklaw04.DriftRises", spec := "driftRises", inPlace := ["math/bits.Sub64"], unfollowed := true, recurses := true, named := ["math/bits.divideError", "math/bits.overflowError"], apart := false, narrowed := true }
def DriftRisesUptoSaid : Prop := driftRisesUptoRow.holds Try.pinned (OpenSpec.upto driftRisesSpec)

/-- 'noonmarklaw04.DriftSound', WHERE WHAT IT READS IS OF BULK AT MOST 1048576: true; the input reads as it did. -/
def driftSoundUptoRow : OpenClaim := { program := "ytgidaifoiljgoaa", sum := "10ee72f67fbbbcf5bb91a3daf97eac3b97a6bceae5033edee8714874d383e86c", func := "noonmark/noonmarklaw04.DriftSound", spec := "driftSound", inPlace := ["math/bits.Sub64"], unfollowed := true, recurses := true, named := ["math/bits.divideError", "math/bits.overflowError"], apart := false, narrowed := true }
def DriftSoundUptoSaid : Prop := driftSoundUptoRow.holds Try.pinned (OpenSpec.upto driftSoundSpec)

/-- 'noonmarklaw04.DriftRates', WHERE WHAT IT READS IS OF BULK AT MOST 1048576: true; the input reads as it did. -/
def driftRatesUptoRow : OpenClaim := { program := "ytgidaifoiljgoaa", sum := "10ee72f67fbbbcf5bb91a3daf97eac3b97a6bceae5033edee8714874d383e86c", func := "noonmark/noonmarklaw04.DriftRates", spec := "driftRates", inPlace := ["math/bits.Sub64"], unfollowed := true, recurses := true, named := ["math/bits.divideError", "math/bits.overflowError"], apart := false, narrowed := true }
def DriftRatesUptoSaid : Prop := driftRatesUptoRow.holds Try.pinned (OpenSpec.upto driftRatesSpec)

/-- 'noonmarklaw18.ClockSound', WHERE WHAT IT READS IS OF BULK AT MOST 1048576: true; the input reads as it did. -/
def clockSoundUptoRow : OpenClaim := { program := "ytgidaifoiljgoaa", sum := "10ee72f67fbbbcf5bb91a3daf97eac3b97a6bceae5033edee8714874d383e86c", func := "noonmark/noonmarklaw18.ClockSound", spec := "clockSound", inPlace := ["math/bits.Sub64"], unfollowed := true, recurses := true, named := ["math/bits.divideError", "math/bits.overflowError"], apart := false, narrowed := true }
def ClockSoundUptoSaid : Prop := clockSoundUptoRow.holds Try.pinned (OpenSpec.upto clockSoundSpec)

end Rows
end Go.Proofs.Ytgidaifoiljgoaa
