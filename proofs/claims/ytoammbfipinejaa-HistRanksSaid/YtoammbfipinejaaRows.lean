/-
  No cell of these rows narrows 'for every input' (looked for: loops, veiled, ifaces, maps, wideKeys, modest, calm, conditions, laid).
  DERIVED. THE GIVEN ROWS OF THIS SEAT. 10 by the template 'for every input the law returns true; each argument reads behind the call as it read before'; 0 by the template 'total and deterministic' (their statements: YtoammbfipinejaaTotals.lean).
  GIVEN WITH THE SEED: the statements are not yours to turn. If you find one false, say at which input.
  Laid BY PROGRAM, IN A SANDBOX (cutbox-rows.mjs): the forced cells as the released guide's own fill.sh prints them over the translation 9f3d0e6280e574c7… (all of the seat's roots in one cut). By AI agents, Wed Nov 11 2026. No macro, syntax, notation, axiom, sorry.
-/
import Derived.Test.YtoammbfipinejaaChecked
import GoSem.Claim
import GoSem.ClaimJoined
import GoSem.ClaimMapViews
import Derived.JoinedTies
import Derived.KernelRfl
namespace Go.Proofs.Ytoammbfipinejaa
/- THE CELL 'sum', in the pinned program and in every row, IS THE sha256 OF THE DUMP (.gsa) THAT YtoammbfipinejaaProg.lean LOADS. Nothing in Lean hashes anything: it is a label: what it is worth is what the hold of that sum in a sandbox is worth. -/
noncomputable def Try.pinned : Pinned := { name := "ytoammbfipinejaa", sum := "9f3d0e6280e574c75ac7580be28100506f7fa55e5052568fbc9fdff6854998e5", checked := Try.checked }
namespace Rows
def none {H : Type} : Left H := { results := [], args := [] }

/-- 'noonmarklaw16.ProbeOnce': WHATEVER THE INPUT: true; the input reads as it did. -/
def probeOnceSpec : ChangeSpec := { name := "probeOnce", fn := fun _ => fun
  | [d1, d2, d3, d4] => { results := [.lit (.bool true)], args := [d1, d2, d3, d4] }
  | _ => none }
def probeOnceRow : OpenClaim := { program := "ytoammbfipinejaa", sum := "9f3d0e6280e574c75ac7580be28100506f7fa55e5052568fbc9fdff6854998e5", func := "noonmark/noonmarklaw16.ProbeOnce", spec := "probeOnce", unfollowed := true, recurses := true, plainKeys := false, apart := false }
def ProbeOnceSaid : Prop := probeOnceRow.holds Try.pinned (OpenSpec.ofChange probeOnceSpec)

/-- ITS FALSE NEIGHBOUR: 'it returns false'. Refute it at one input. -/
def probeOnceWrong : ChangeSpec := { name := "probeOnce", fn := fun _ => fun
  | [d1, d2, d3, d4] => { results := [.lit (.bool false)], args := [d1, d2, d3, d4] }
  | _ => none }
def ProbeOnceWrongFalsely : Prop := probeOnceRow.holds Try.pinned (OpenSpec.ofChange probeOnceWrong)

/-- 'noonmarklaw06.CodeWrites': WHATEVER THE INPUT: true; the input reads as it did. -/
def codeWritesSpec : ChangeSpec := { name := "codeWrites", fn := fun _ => fun
  | [d1, d2, d3] => { results := [.lit (.bool true)], args := [d1, d2, d3] }
  | _ => none }
def codeWritesRow : OpenClaim := { program := "ytoammbfipinejaa", sum := "9f3d0e6280e574c75ac7580be28100506f7fa55e5052568fbc9fdff6854998e5", func := "noonmark/noonmarklaw06.CodeWrites", spec := "codeWrites", plainKeys := false, apart := false }
def CodeWritesSaid : Prop := codeWritesRow.holds Try.pinned (OpenSpec.ofChange codeWritesSpec)

/-- ITS FALSE NEIGHBOUR: 'it returns false'. Refute it at one input. -/
def codeWritesWrong : ChangeSpec := { name := "codeWrites", fn := fun _ => fun
  | [d1, d2, d3] => { results := [.lit (.bool false)], args := [d1, d2, d3] }
  | _ => none }
def CodeWritesWrongFalsely : Prop := codeWritesRow.holds Try.pinned (OpenSpec.ofChange codeWritesWrong)

/-- 'noonmarklaw06.CodeBack': WHATEVER THE INPUT: true; the input reads as it did. -/
def codeBackSpec : ChangeSpec := { name := "codeBack", fn := fun _ => fun
  | [d1, d2, d3, d4] => { results := [.lit (.bool true)], args := [d1, d2, d3, d4] }
  | _ => none }
def codeBackRow : OpenClaim := { program := "ytoammbfipinejaa", sum := "9f3d0e6280e574c75ac7580be28100506f7fa55e5052568fbc9fdff6854998e5", func := "noonmark/noonmarklaw06.CodeBack", spec := "codeBack", plainKeys := false, apart := false }
def CodeBackSaid : Prop := codeBackRow.holds Try.pinned (OpenSpec.ofChange codeBackSpec)

/-- ITS FALSE NEIGHBOUR: 'it returns false'. Refute it at one input. -/
def codeBackWrong : ChangeSpec := { name := "codeBack", fn := fun _ => fun
  | [d1, d2, d3, d4] => { results := [.lit (.bool false)], args := [d1, d2, d3, d4] }
  | _ => none }
def CodeBackWrongFalsely : Prop := codeBackRow.holds Try.pinned (OpenSpec.ofChange codeBackWrong)

/-- 'noonmarklaw06.CodeOne': WHATEVER THE INPUT: true; the input reads as it did. -/
def codeOneSpec : ChangeSpec := { name := "codeOne", fn := fun _ => fun
  | [d] => { results := [.lit (.bool true)], args := [d] }
  | _ => none }
def codeOneRow : OpenClaim := { program := "ytoammbfipinejaa", sum := "9f3d0e6280e574c75ac7580be28100506f7fa55e5052568fbc9fdff6854998e5", func := "noonmark/noonmarklaw06.CodeOne", spec := "codeOne", plainKeys := false, apart := false }
def CodeOneSaid : Prop := codeOneRow.holds Try.pinned (OpenSpec.ofChange codeOneSpec)

/-- ITS FALSE NEIGHBOUR: 'it returns false'. Refute it at one input. -/
def codeOneWrong : ChangeSpec := { name := "codeOne", fn := fun _ => fun
  | [d] => { results := [.lit (.bool false)], args := [d] }
  | _ => none }
def CodeOneWrongFalsely : Prop := codeOneRow.holds Try.pinned (OpenSpec.ofChange codeOneWrong)

/-- 'noonmarklaw06.CodeSizes': WHATEVER THE INPUT: true; the input reads as it did. -/
def codeSizesSpec : ChangeSpec := { name := "codeSizes", fn := fun _ => fun
  | [d1, d2, d3] => { results := [.lit (.bool true)], args := [d1, d2, d3] }
  | _ => none }
def codeSizesRow : OpenClaim := { program := "ytoammbfipinejaa", sum := "9f3d0e6280e574c75ac7580be28100506f7fa55e5052568fbc9fdff6854998e5", func := "noonmark/noonmarklaw06.CodeSizes", spec := "codeSizes", plainKeys := false, apart := false }
def CodeSizesSaid : Prop := codeSizesRow.holds Try.pinned (OpenSpec.ofChange codeSizesSpec)

/-- ITS FALSE NEIGHBOUR: 'it returns false'. Refute it at one input. -/
def codeSizesWrong : ChangeSpec := { name := "codeSizes", fn := fun _ => fun
  | [d1, d2, d3] => { results := [.lit (.bool false)], args := [d1, d2, d3] }
  | _ => none }
def CodeSizesWrongFalsely : Prop := codeSizesRow.holds Try.pinned (OpenSpec.ofChange codeSizesWrong)

/-- 'noonmarklaw05.HistCounts': WHATEVER THE INPUT: true; the input reads as it did. -/
def histCountsSpec : ChangeSpec := { name := "histCounts", fn := fun _ => fun
  | [d1, d2, d3] => { results := [.lit (.bool true)], args := [d1, d2, d3] }
  | _ => none }
def histCountsRow : OpenClaim := { program := "ytoammbfipinejaa", sum := "9f3d0e6280e574c75ac7580be28100506f7fa55e5052568fbc9fdff6854998e5", func := "noonmark/noonmarklaw05.HistCounts", spec := "histCounts", inPlace := ["math/bits.Add64"], unfollowed := true, recurses := true, plainKeys := false, apart := false }
def HistCountsSaid : Prop := histCountsRow.holds Try.pinned (OpenSpec.ofChange histCountsSpec)

/-- ITS FALSE NEIGHBOUR: 'it returns false'. Refute it at one input. -/
def histCountsWrong : ChangeSpec := { name := "histCounts", fn := fun _ => fun
  | [d1, d2, d3] => { results := [.lit (.bool false)], args := [d1, d2, d3] }
  | _ => none }
def HistCountsWrongFalsely : Prop := histCountsRow.holds Try.pinned (OpenSpec.ofChange histCountsWrong)

/-- 'noonmarklaw05.HistRanks': WHATEVER THE INPUT: true; the input reads as it did. -/
def histRanksSpec : ChangeSpec := { name := "histRanks", fn := fun _ => fun
  | [d1, d2] => { results := [.lit (.bool true)], args := [d1, d2] }
  | _ => none }
def histRanksRow : OpenClaim := { program := "ytoammbfipinejaa", sum := "9f3d0e6280e574c75ac7580be28100506f7fa55e5052568fbc9fdff6854998e5", func := "noonmark/noonmarklaw05.HistRanks", spec := "histRanks", inPlace := ["math/bits.Add64"], unfollowed := true, recurses := true, plainKeys := false, apart := false }
def HistRanksSaid : Prop := histRanksRow.holds Try.pinned (OpenSpec.ofChange histRanksSpec)

/-- ITS FALSE NEIGHBOUR: 'it returns false'. Refute it at one input. -/
def histRanksWrong : ChangeSpec := { name := "histRanks", fn := fun _ => fun
  | [d1, d2] => { results := [.lit (.bool false)], args := [d1, d2] }
  | _ => none }
def HistRanksWrongFalsely : Prop := histRanksRow.holds Try.pinned (OpenSpec.ofChange histRanksWrong)

/-- 'noonmarklaw05.HistParts': WHATEVER THE INPUT: true; the input reads as it did. -/
def histPartsSpec : ChangeSpec := { name := "histParts", fn := fun _ => fun
  | [d1, d2] => { results := [.lit (.bool true)], args := [d1, d2] }
  | _ => none }
def histPartsRow : OpenClaim := { program := "ytoammbfipinejaa", sum := "9f3d0e6280e574c75ac7580be28100506f7fa55e5052568fbc9fdff6854998e5", func := "noonmark/noonmarklaw05.HistParts", spec := "histParts", inPlace := ["math/bits.Add64"], unfollowed := true, recurses := true, plainKeys := false, apart := false }
def HistPartsSaid : Prop := histPartsRow.holds Try.pinned (OpenSpec.ofChange histPartsSpec)

/-- ITS FALSE NEIGHBOUR: 'it returns false'. Refute it at one input. -/
def histPartsWrong : ChangeSpec := { name := "histParts", fn := fun _ => fun
  | [d1, d2] => { results := [.lit (.bool false)], args := [d1, d2] }
  | _ => none }
def HistPartsWrongFalsely : Prop := histPartsRow.holds Try.pinned (OpenSpec.ofChange histPartsWrong)

/-- 'noonmarklaw05.HistOrder': WHATEVER THE INPUT: true; the input reads as it did. -/
def histOrderSpec : ChangeSpec := { name := "histOrder", fn := fun _ => fun
  | [d] => { results := [.lit (.bool true)], args := [d] }
  | _ => none }
def histOrderRow : OpenClaim := { program := "ytoammbfipinejaa", sum := "9f3d0e6280e574c75ac7580be28100506f7fa55e5052568fbc9fdff6854998e5", func := "noonmark/noonmarklaw05.HistOrder", spec := "histOrder", inPlace := ["math/bits.Add64"], unfollowed := true, recurses := true, plainKeys := false, apart := false }
def HistOrderSaid : Prop := histOrderRow.holds Try.pinned (OpenSpec.ofChange histOrderSpec)

/-- ITS FALSE NEIGHBOUR: 'it returns false'. Refute it at one input. -/
def histOrderWrong : ChangeSpec := { name := "histOrder", fn := fun _ => fun
  | [d] => { results := [.lit (.bool false)], args := [d] }
  | _ => none }
def HistOrderWrongFalsely : Prop := histOrderRow.holds Try.pinned (OpenSpec.ofChange histOrderWrong)

/-- 'noonmarklaw05.HistBuckets': WHATEVER THE INPUT: true; the input reads as it did. -/
def histBucketsSpec : ChangeSpec := { name := "histBuckets", fn := fun _ => fun
  | [d1, d2] => { results := [.lit (.bool true)], args := [d1, d2] }
  | _ => none }
def histBucketsRow : OpenClaim := { program := "ytoammbfipinejaa", sum := "9f3d0e6280e574c75ac7580be28100506f7fa55e5052568fbc9fdff6854998e5", func := "noonmark/noonmarklaw05.HistBuckets", spec := "histBuckets", inPlace := ["math/bits.Add64"], unfollowed := true, recurses := true, plainKeys := false, apart := false }
def HistBucketsSaid : Prop := histBucketsRow.holds Try.pinned (OpenSpec.ofChange histBucketsSpec)

/-- ITS FALSE NEIGHBOUR: 'it returns false'. Refute it at one input. -/
def histBucketsWrong : ChangeSpec := { name := "histBuckets", fn := fun _ => fun
  | [d1, d2] => { results := [.lit (.bool false)], args := [d1, d2] }
  | _ => none }
def HistBucketsWrongFalsely : Prop := histBucketsRow.holds Try.pinned (OpenSpec.ofChange histBucketsWrong)

/- THE SECOND FORM. 'bulk': how many values and letters a reading holds, each counted each time it is reached (what is shared counts as often as it is met; a slice's spare places count too). A statement '..UptoSaid' is the law's where the arguments, and the package variables that the reading takes, are together of bulk at most 1048576: NARROWER than '..Said'. Prove '..Said' where nothing that the law and all that it calls make is longer than what came in: it says more and counts as full. Else prove '..UptoSaid'. A law counts once. -/
mutual
def uptoBulk {H : Type} : DataW H → Nat
  | .lit (.string bytes) => bytes.length + 1
  | .lit _ => 1
  | .nil => 1
  | .ptr d => uptoBulk d + 1
  | .slice elems spare => uptoBulkAll elems + uptoBulkAll spare + 1
  | .agg parts => uptoBulkAll parts + 1
  | .iface _ d => uptoBulk d + 1
  | .map entries => uptoBulkEntries entries + 1
  | .held _ => 1
def uptoBulkAll {H : Type} : List (DataW H) → Nat
  | [] => 0
  | d :: r => uptoBulk d + uptoBulkAll r
def uptoBulkEntries {H : Type} : List (Lit × DataW H) → Nat
  | [] => 0
  | x :: r => uptoBulkEntry x + uptoBulkEntries r
def uptoBulkEntry {H : Type} : Lit × DataW H → Nat
  | (.string bytes, d) => bytes.length + uptoBulk d + 1
  | (_, d) => uptoBulk d + 1
 end
def uptoSmall : (H : Type) → List (DataW H) → Bool := fun _ ds => decide (uptoBulkAll ds ≤ 1048576)
def OpenSpec.upto (s : _root_.Go.ChangeSpec) : _root_.Go.OpenSpec := { _root_.Go.OpenSpec.ofChange s with cond := some uptoSmall }

/-- 'noonmarklaw16.ProbeOnce', WHERE WHAT IT READS IS OF BULK AT MOST 1048576: true; the input reads as it did. -/
def probeOnceUptoRow : OpenClaim := { program := "ytoammbfipinejaa", sum := "9f3d0e6280e574c75ac7580be28100506f7fa55e5052568fbc9fdff6854998e5", func := "noonmark/noonmarklaw16.ProbeOnce", spec := "probeOnce", unfollowed := true, recurses := true, plainKeys := false, apart := false, narrowed := true }
def ProbeOnceUptoSaid : Prop := probeOnceUptoRow.holds Try.pinned (OpenSpec.upto probeOnceSpec)

/-- 'noonmarklaw06.CodeWrites', WHERE WHAT IT READS IS OF BULK AT MOST 1048576: true; the input reads as it did. -/
def codeWritesUptoRow : OpenClaim := { program := "ytoammbfipinejaa", sum := "9f3d0e6280e574c75ac7580be28100506f7fa55e5052568fbc9fdff6854998e5", func := "noonmark/noonmarklaw06.CodeWrites", spec := "codeWrites", plainKeys := false, apart := false, narrowed := true }
def CodeWritesUptoSaid : Prop := codeWritesUptoRow.holds Try.pinned (OpenSpec.upto codeWritesSpec)

/-- 'noonmarklaw06.CodeBack', WHERE WHAT IT READS IS OF BULK AT MOST 1048576: true; the input reads as it did. -/
def codeBackUptoRow : OpenClaim := { program := "ytoammbfipinejaa", sum := "9f3d0e6280e574c75ac7580be28100506f7fa55e5052568fbc9fdff6854998e5", func := "noonmark/noonmarklaw06.CodeBack", spec := "codeBack", plainKeys := false, apart := false, narrowed := true }
def CodeBackUptoSaid : Prop := codeBackUptoRow.holds Try.pinned (OpenSpec.upto codeBackSpec)

/-- 'noonmarklaw06.CodeOne', WHERE WHAT IT READS IS OF BULK AT MOST 1048576: true; the input reads as it did. -/
def codeOneUptoRow : OpenClaim := { program := "ytoammbfipinejaa", sum := "9f3d0e6280e574c75ac7580be28100506f7fa55e5052568fbc9fdff6854998e5", func := "noonmark/noonmarklaw06.CodeOne", spec := "codeOne", plainKeys := false, apart := false, narrowed := true }
def CodeOneUptoSaid : Prop := codeOneUptoRow.holds Try.pinned (OpenSpec.upto codeOneSpec)

/-- 'noonmarklaw06.CodeSizes', WHERE WHAT IT READS IS OF BULK AT MOST 1048576: true; the input reads as it did. -/
def codeSizesUptoRow : OpenClaim := { program := "ytoammbfipinejaa", sum := "9f3d0e6280e574c75ac7580be28100506f7fa55e5052568fbc9fdff6854998e5", func := "noonmark/noonmarklaw06.CodeSizes", spec := "codeSizes", plainKeys := false, apart := false, narrowed := true }
def CodeSizesUptoSaid : Prop := codeSizesUptoRow.holds Try.pinned (OpenSpec.upto codeSizesSpec)

/-- 'noonmarklaw05.HistCounts', WHERE WHAT IT READS IS OF BULK AT MOST 1048576: true; the input reads as it did. -/
def histCountsUptoRow : OpenClaim := { program := "ytoammbfipinejaa", sum := "9f3d0e6280e574c75ac7580be28100506f7fa55e5052568fbc9fdff6854998e5", func := "noonmark/noonmarklaw05.HistCounts", spec := "histCounts", inPlace := ["math/bits.Add64"], unfollowed := true, recurses := true, plainKeys := false, apart := false, narrowed := true }
def HistCountsUptoSaid : Prop := histCountsUptoRow.holds Try.pinned (OpenSpec.upto histCountsSpec)

/-- 'noonmarklaw05.HistRanks', WHERE WHAT IT READS IS OF BULK AT MOST 1048576: true; the input reads as it did. -/
def histRanksUptoRow : OpenClaim := { program := "ytoammbfipinejaa", sum := "9f3d0e6280e574c75ac7580be28100506f7fa55e5052568fbc9fdff6854998e5", func := "noonmark/noonmarklaw05.HistRanks", spec := "histRanks", inPlace := ["math/bits.Add64"], unfollowed := true, recurses := true, plainKeys := false, apart := false, narrowed := true }
def HistRanksUptoSaid : Prop := histRanksUptoRow.holds Try.pinned (OpenSpec.upto histRanksSpec)

/-- 'noonmarklaw05.HistParts', WHERE WHAT IT READS IS OF BULK AT MOST 1048576: true; the input reads as it did. -/
def histPartsUptoRow : OpenClaim := { program := "ytoammbfipinejaa", sum := "9f3d0e6280e574c75ac7580be28100506f7fa55e5052568fbc9fdff6854998e5", func := "noonmark/noonmarklaw05.HistParts", spec := "histParts", inPlace := ["math/bits.Add64"], unfollowed := true, recurses := true, plainKeys := false, apart := false, narrowed := true }
def HistPartsUptoSaid : Prop := histPartsUptoRow.holds Try.pinned (OpenSpec.upto histPartsSpec)

/-- 'noonmarklaw05.HistOrder', WHERE WHAT IT READS IS OF BULK AT MOST 1048576: true; the input reads as it did. -/
def histOrderUptoRow : OpenClaim := { program := "ytoammbfipinejaa", sum := "9f3d0e6280e574c75ac7580be28100506f7fa55e5052568fbc9fdff6854998e5", func := "noonmark/noonmarklaw05.HistOrder", spec := "histOrder", inPlace := ["math/bits.Add64"], unfollowed := true, recurses := true, plainKeys := false, apart := false, narrowed := true }
def HistOrderUptoSaid : Prop := histOrderUptoRow.holds Try.pinned (OpenSpec.upto histOrderSpec)

/-- 'noonmarklaw05.HistBuckets', WHERE WHAT IT READS IS OF BULK AT MOST 1048576: true; the input reads as it did. -/
def histBucketsUptoRow : OpenClaim := { program := "ytoammbfipinejaa", sum := "9f3d0e6280e574c75ac7580be28100506f7fa55e5052568fbc9fdff6854998e5", func := "noonmark/noonmarklaw05.HistBuckets", spec := "histBuckets", inPlace := ["math/bits.Add64"], unfollowed := true, recurses := true, plainKeys := false, apart := false, narrowed := true }
def HistBucketsUptoSaid : Prop := histBucketsUptoRow.holds Try.pinned (OpenSpec.upto histBucketsSpec)

end Rows
end Go.Proofs.Ytoammbfipinejaa
