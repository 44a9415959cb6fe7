/- Two closed facts on the program that every law's statement asks. -/
import Derived.Test.YtgidaifoiljgoaaChecked
import Derived.Test.YtgidaifoiljgoaaRows
import Derived.Test.YtgidaifoiljgoaaFrame
namespace Go.Proofs.Ytgidaifoiljgoaa
set_option linter.unusedSimpArgs false
set_option linter.unusedVariables false
open Go.RowKit
theorem own : ownKnob Try.prog.godebug = none := by kernel_rfl
theorem laidOut : laidOutB Try.prog = true := by kernel_rfl
end Go.Proofs.Ytgidaifoiljgoaa
