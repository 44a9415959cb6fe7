/-
  DERIVED. GIVEN WITH THE SEED: THE CARDS: each row of YtpnbpcdmiiakcaaDoorRows.lean that lists a variable, with what it lists TIED to the program's text (the seventh form; the later family's looks); each row that meets fmt, with fmt's text TOLD by the authors' own Lean function (tested against real Go, not proved from fmt's source: count such statements apart). THE CARD IS WHAT COUNTS. Prove the row's statement (the work); the ties are given (YtpnbpcdmiiakcaaDoorTie.lean); close each card by the builder's one call (the guide's Derived/Test/ToyasCard.lean, 'card_holds'). Laid BY PROGRAM, IN A SANDBOX (cutbox-door.mjs). By AI agents, Wed Nov 11 2026. No macro, syntax, notation, axiom, sorry.
-/
import Derived.Test.YtpnbpcdmiiakcaaDoorRows
import GoSem.ClaimSeven
namespace Go.Proofs.YtpnbpcdmiiakcaaDoor
namespace Rows

/-- THE TIED CARD OF 'noonmarklaw08.LabelMakes'. -/
def labelMakesCard : Claim7 := { stood := { row := labelMakesRow, standIns := [], harness := (true, "1462d213df52d6caf1a60d4f1c96d5a64a810b0e17a4d6ae3ba94b57b0587a17"), looks := false }, kinds := [], alts := [], laidByText := true, laidKinds := [.data, .pinned], laidTests := true, laidLooks := .later }
def LabelMakesCardSaid : Prop := Claim7.holds Tryd.pinned (.plain (OpenSpec.ofChange labelMakesSpec)) labelMakesCard

/-- THE TIED CARD OF 'noonmarklaw08.LabelTexts'. -/
def labelTextsCard : Claim7 := { stood := { row := labelTextsRow, standIns := [], harness := (true, "1462d213df52d6caf1a60d4f1c96d5a64a810b0e17a4d6ae3ba94b57b0587a17"), looks := false }, kinds := [], alts := [], laidByText := true, laidKinds := [.data, .pinned], laidTests := true, laidLooks := .later }
def LabelTextsCardSaid : Prop := Claim7.holds Tryd.pinned (.plain (OpenSpec.ofChange labelTextsSpec)) labelTextsCard

/-- THE TIED CARD OF 'noonmarklaw08.LabelOrder'. -/
def labelOrderCard : Claim7 := { stood := { row := labelOrderRow, standIns := [], harness := (true, "1462d213df52d6caf1a60d4f1c96d5a64a810b0e17a4d6ae3ba94b57b0587a17"), looks := false }, kinds := [], alts := [], laidByText := true, laidKinds := [.data, .pinned], laidTests := true, laidLooks := .later }
def LabelOrderCardSaid : Prop := Claim7.holds Tryd.pinned (.plain (OpenSpec.ofChange labelOrderSpec)) labelOrderCard

/-- THE SECOND FORM's CARD OF 'noonmarklaw08.LabelMakes'. -/
def labelMakesUptoCard : Claim7 := { stood := { row := labelMakesUptoRow, standIns := [], harness := (true, "1462d213df52d6caf1a60d4f1c96d5a64a810b0e17a4d6ae3ba94b57b0587a17"), looks := false }, kinds := [], alts := [], laidByText := true, laidKinds := [.data, .pinned], laidTests := true, laidLooks := .later }
def LabelMakesUptoCardSaid : Prop := Claim7.holds Tryd.pinned (.plain (OpenSpec.upto labelMakesSpec)) labelMakesUptoCard

/-- THE SECOND FORM's CARD OF 'noonmarklaw08.LabelTexts'. -/
def labelTextsUptoCard : Claim7 := { stood := { row := labelTextsUptoRow, standIns := [], harness := (true, "1462d213df52d6caf1a60d4f1c96d5a64a810b0e17a4d6ae3ba94b57b0587a17"), looks := false }, kinds := [], alts := [], laidByText := true, laidKinds := [.data, .pinned], laidTests := true, laidLooks := .later }
def LabelTextsUptoCardSaid : Prop := Claim7.holds Tryd.pinned (.plain (OpenSpec.upto labelTextsSpec)) labelTextsUptoCard

/-- THE SECOND FORM's CARD OF 'noonmarklaw08.LabelOrder'. -/
def labelOrderUptoCard : Claim7 := { stood := { row := labelOrderUptoRow, standIns := [], harness := (true, "1462d213df52d6caf1a60d4f1c96d5a64a810b0e17a4d6ae3ba94b57b0587a17"), looks := false }, kinds := [], alts := [], laidByText := true, laidKinds := [.data, .pinned], laidTests := true, laidLooks := .later }
def LabelOrderUptoCardSaid : Prop := Claim7.holds Tryd.pinned (.plain (OpenSpec.upto labelOrderSpec)) labelOrderUptoCard
end Rows
end Go.Proofs.YtpnbpcdmiiakcaaDoor
