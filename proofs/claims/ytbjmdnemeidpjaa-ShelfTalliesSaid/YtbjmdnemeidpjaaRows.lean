/-
  No cell of these rows narrows 'for every input' (looked for: loops, veiled, ifaces, maps, wideKeys, modest, calm, conditions, laid).
  DERIVED. THE GIVEN ROWS OF THIS SEAT. 5 by the template 'for every input the law returns true; each argument reads behind the call as it read before'; 0 by the template 'total and deterministic' (their statements: YtbjmdnemeidpjaaTotals.lean).
  GIVEN WITH THE SEED: the statements are not yours to turn. If you find one false, say at which input.
  Laid BY PROGRAM, IN A SANDBOX (cutbox-rows.mjs): the forced cells as the released guide's own fill.sh prints them over the translation b3f1a5dc25842e5d… (all of the seat's roots in one cut). By AI agents, Wed Nov 11 2026. No macro, syntax, notation, axiom, sorry.
-/
import Derived.Test.YtbjmdnemeidpjaaChecked
import GoSem.Claim
import GoSem.ClaimJoined
import GoSem.ClaimMapViews
import Derived.JoinedTies
import Derived.KernelRfl
namespace Go.Proofs.Ytbjmdnemeidpjaa
/- THE CELL 'sum', in the pinned program and in every row, IS THE sha256 OF THE DUMP (.gsa) THAT YtbjmdnemeidpjaaProg.lean LOADS. Nothing in Lean hashes anything: it is a label: what it is worth is what the hold of that sum in a sandbox is worth. -/
noncomputable def Try.pinned : Pinned := { name := "ytbjmdnemeidpjaa", sum := "b3f1a5dc25842e5dd7cf6715b1a2677b31f4279b8df735267b4146ab9a2f3b2c", checked := Try.checked }
namespace Rows
def none {H : Type} : Left H := { results := [], args := [] }

/-- 'noonmarklaw21.CellFolds': WHATEVER THE INPUT: true; the input reads as it did. -/
def cellFoldsSpec : ChangeSpec := { name := "cellFolds", fn := fun _ => fun
  | [d1, d2, d3, d4] => { results := [.lit (.bool true)], args := [d1, d2, d3, d4] }
  | _ => none }
def cellFoldsRow : OpenClaim := { program := "ytbjmdnemeidpjaa", sum := "b3f1a5dc25842e5dd7cf6715b1a2677b31f4279b8df735267b4146ab9a2f3b2c", func := "noonmark/noonmarklaw21.CellFolds", spec := "cellFolds", inPlace := ["math/bits.Add64"], unfollowed := true, recurses := true, plainKeys := false, apart := false }
def CellFoldsSaid : Prop := cellFoldsRow.holds Try.pinned (OpenSpec.ofChange cellFoldsSpec)

/-- ITS FALSE NEIGHBOUR: 'it returns false'. Refute it at one input. -/
def cellFoldsWrong : ChangeSpec := { name := "cellFolds", fn := fun _ => fun
  | [d1, d2, d3, d4] => { results := [.lit (.bool false)], args := [d1, d2, d3, d4] }
  | _ => none }
def CellFoldsWrongFalsely : Prop := cellFoldsRow.holds Try.pinned (OpenSpec.ofChange cellFoldsWrong)

/-- 'noonmarklaw21.CellMerges': WHATEVER THE INPUT: true; the input reads as it did. -/
def cellMergesSpec : ChangeSpec := { name := "cellMerges", fn := fun _ => fun
  | [d1, d2] => { results := [.lit (.bool true)], args := [d1, d2] }
  | _ => none }
def cellMergesRow : OpenClaim := { program := "ytbjmdnemeidpjaa", sum := "b3f1a5dc25842e5dd7cf6715b1a2677b31f4279b8df735267b4146ab9a2f3b2c", func := "noonmark/noonmarklaw21.CellMerges", spec := "cellMerges", inPlace := ["math/bits.Add64"], unfollowed := true, recurses := true, plainKeys := false, apart := false }
def CellMergesSaid : Prop := cellMergesRow.holds Try.pinned (OpenSpec.ofChange cellMergesSpec)

/-- ITS FALSE NEIGHBOUR: 'it returns false'. Refute it at one input. -/
def cellMergesWrong : ChangeSpec := { name := "cellMerges", fn := fun _ => fun
  | [d1, d2] => { results := [.lit (.bool false)], args := [d1, d2] }
  | _ => none }
def CellMergesWrongFalsely : Prop := cellMergesRow.holds Try.pinned (OpenSpec.ofChange cellMergesWrong)

/-- 'noonmarklaw21.CellParts': WHATEVER THE INPUT: true; the input reads as it did. -/
def cellPartsSpec : ChangeSpec := { name := "cellParts", fn := fun _ => fun
  | [d1, d2] => { results := [.lit (.bool true)], args := [d1, d2] }
  | _ => none }
def cellPartsRow : OpenClaim := { program := "ytbjmdnemeidpjaa", sum := "b3f1a5dc25842e5dd7cf6715b1a2677b31f4279b8df735267b4146ab9a2f3b2c", func := "noonmark/noonmarklaw21.CellParts", spec := "cellParts", inPlace := ["math/bits.Add64"], unfollowed := true, recurses := true, plainKeys := false, apart := false }
def CellPartsSaid : Prop := cellPartsRow.holds Try.pinned (OpenSpec.ofChange cellPartsSpec)

/-- ITS FALSE NEIGHBOUR: 'it returns false'. Refute it at one input. -/
def cellPartsWrong : ChangeSpec := { name := "cellParts", fn := fun _ => fun
  | [d1, d2] => { results := [.lit (.bool false)], args := [d1, d2] }
  | _ => none }
def CellPartsWrongFalsely : Prop := cellPartsRow.holds Try.pinned (OpenSpec.ofChange cellPartsWrong)

/-- 'noonmarklaw21.CellNotes': WHATEVER THE INPUT: true; the input reads as it did. -/
def cellNotesSpec : ChangeSpec := { name := "cellNotes", fn := fun _ => fun
  | [d1, d2, d3] => { results := [.lit (.bool true)], args := [d1, d2, d3] }
  | _ => none }
def cellNotesRow : OpenClaim := { program := "ytbjmdnemeidpjaa", sum := "b3f1a5dc25842e5dd7cf6715b1a2677b31f4279b8df735267b4146ab9a2f3b2c", func := "noonmark/noonmarklaw21.CellNotes", spec := "cellNotes", inPlace := ["math/bits.Add64"], unfollowed := true, recurses := true, plainKeys := false, apart := false }
def CellNotesSaid : Prop := cellNotesRow.holds Try.pinned (OpenSpec.ofChange cellNotesSpec)

/-- ITS FALSE NEIGHBOUR: 'it returns false'. Refute it at one input. -/
def cellNotesWrong : ChangeSpec := { name := "cellNotes", fn := fun _ => fun
  | [d1, d2, d3] => { results := [.lit (.bool false)], args := [d1, d2, d3] }
  | _ => none }
def CellNotesWrongFalsely : Prop := cellNotesRow.holds Try.pinned (OpenSpec.ofChange cellNotesWrong)

/-- 'noonmarklaw22.ShelfTallies': WHATEVER THE INPUT: true; the input reads as it did. -/
def shelfTalliesSpec : ChangeSpec := { name := "shelfTallies", fn := fun _ => fun
  | [d] => { results := [.lit (.bool true)], args := [d] }
  | _ => none }
def shelfTalliesRow : OpenClaim := { program := "ytbjmdnemeidpjaa", sum := "b3f1a5dc25842e5dd7cf6715b1a2677b31f4279b8df735267b4146ab9a2f3b2c", func := "noonmark/noonmarklaw22.ShelfTallies", spec := "shelfTallies", inPlace := ["math/bits.Add64", "maps.clone"], unfollowed := true, recurses := true, plainKeys := false, apart := false }
def ShelfTalliesSaid : Prop := shelfTalliesRow.holds Try.pinned (OpenSpec.ofChange shelfTalliesSpec)

/-- ITS FALSE NEIGHBOUR: 'it returns false'. Refute it at one input. -/
def shelfTalliesWrong : ChangeSpec := { name := "shelfTallies", fn := fun _ => fun
  | [d] => { results := [.lit (.bool false)], args := [d] }
  | _ => none }
def ShelfTalliesWrongFalsely : Prop := shelfTalliesRow.holds Try.pinned (OpenSpec.ofChange shelfTalliesWrong)

/- THE SECOND FORM. 'bulk': how many values and letters a reading holds, each counted each time it is reached (what is shared counts as often as it is met; a slice's spare places count too). A statement '..UptoSaid' is the law's where the arguments, and the package variables that the reading takes, are together of bulk at most 1048576: NARROWER than '..Said'. Prove '..Said' where nothing that the law and all that it calls make is longer than what came in: it says more and counts as full. Else prove '..UptoSaid'. A law counts once. -/
mutual
def uptoBulk {H : Type} : DataW H → Nat
  | .lit (.string bytes) => bytes.length + 1
  | .lit _ => 1
  | .nil => 1
  | .ptr d => uptoBulk d + 1
  | .slice elems spare => uptoBulkAll elems + uptoBulkAll spare + 1
  | .agg parts => uptoBulkAll parts + 1
  | .iface _ d => uptoBulk d + 1
  | .map entries => uptoBulkEntries entries + 1
  | .held _ => 1
def uptoBulkAll {H : Type} : List (DataW H) → Nat
  | [] => 0
  | d :: r => uptoBulk d + uptoBulkAll r
def uptoBulkEntries {H : Type} : List (Lit × DataW H) → Nat
  | [] => 0
  | x :: r => uptoBulkEntry x + uptoBulkEntries r
def uptoBulkEntry {H : Type} : Lit × DataW H → Nat
  | (.string bytes, d) => bytes.length + uptoBulk d + 1
  | (_, d) => uptoBulk d + 1
 end
def uptoSmall : (H : Type) → List (DataW H) → Bool := fun _ ds => decide (uptoBulkAll ds ≤ 1048576)
def OpenSpec.upto (s : _root_.Go.ChangeSpec) : _root_.Go.OpenSpec := { _root_.Go.OpenSpec.ofChange s with cond := some uptoSmall }

/-- 'noonmarklaw21.CellFolds', WHERE WHAT IT READS IS OF BULK AT MOST 1048576: true; the input reads as it did. -/
def cellFoldsUptoRow : OpenClaim := { program := "ytbjmdnemeidpjaa", sum := "b3f1a5dc25842e5dd7cf6715b1a2677b31f4279b8df735267b4146ab9a2f3b2c", func := "noonmark/noonmarklaw21.CellFolds", spec := "cellFolds", inPlace := ["math/bits.Add64"], unfollowed := true, recurses := true, plainKeys := false, apart := false, narrowed := true }
def CellFoldsUptoSaid : Prop := cellFoldsUptoRow.holds Try.pinned (OpenSpec.upto cellFoldsSpec)

/-- 'noonmarklaw21.CellMerges', WHERE WHAT IT READS IS OF BULK AT MOST 1048576: true; the input reads as it did. -/
def cellMergesUptoRow : OpenClaim := { program := "ytbjmdnemeidpjaa", sum := "b3f1a5dc25842e5dd7cf6715b1a2677b31f4279b8df735267b4146ab9a2f3b2c", func := "noonmark/noonmarklaw21.CellMerges", spec := "cellMerges", inPlace := ["math/bits.Add64"], unfollowed := true, recurses := true, plainKeys := false, apart := false, narrowed := true }
def CellMergesUptoSaid : Prop := cellMergesUptoRow.holds Try.pinned (OpenSpec.upto cellMergesSpec)

/-- 'noonmarklaw21.CellParts', WHERE WHAT IT READS IS OF BULK AT MOST 1048576: true; the input reads as it did. -/
def cellPartsUptoRow : OpenClaim := { program := "ytbjmdnemeidpjaa", sum := "b3f1a5dc25842e5dd7cf6715b1a2677b31f4279b8df735267b4146ab9a2f3b2c", func := "noonmark/noonmarklaw21.CellParts", spec := "cellParts", inPlace := ["math/bits.Add64"], unfollowed := true, recurses := true, plainKeys := false, apart := false, narrowed := true }
def CellPartsUptoSaid : Prop := cellPartsUptoRow.holds Try.pinned (OpenSpec.upto cellPartsSpec)

/-- 'noonmarklaw21.CellNotes', WHERE WHAT IT READS IS OF BULK AT MOST 1048576: true; the input reads as it did. -/
def cellNotesUptoRow : OpenClaim := { program := "ytbjmdnemeidpjaa", sum := "b3f1a5dc25842e5dd7cf6715b1a2677b31f4279b8df735267b4146ab9a2f3b2c", func := "noonmark/noonmarklaw21.CellNotes", spec := "cellNotes", inPlace := ["math/bits.Add64"], unfollowed := true, recurses := true, plainKeys := false, apart := false, narrowed := true }
def CellNotesUptoSaid : Prop := cellNotesUptoRow.holds Try.pinned (OpenSpec.upto cellNotesSpec)

/-- 'noonmarklaw22.ShelfTallies', WHERE WHAT IT READS IS OF BULK AT MOST 1048576: true; the input reads as it did. -/
def shelfTalliesUptoRow : OpenClaim := { program := "ytbjmdnemeidpjaa", sum := "b3f1a5dc25842e5dd7cf6715b1a2677b31f4279b8df735267b4146ab9a2f3b2c", func := "noonmark/noonmarklaw22.ShelfTallies", spec := "shelfTallies", inPlace := ["math/bits.Add64", "maps.clone"], unfollowed := true, recurses := true, plainKeys := false, apart := false, narrowed := true }
def ShelfTalliesUptoSaid : Prop := shelfTalliesUptoRow.holds Try.pinned (OpenSpec.upto shelfTalliesSpec)

end Rows
end Go.Proofs.Ytbjmdnemeidpjaa
