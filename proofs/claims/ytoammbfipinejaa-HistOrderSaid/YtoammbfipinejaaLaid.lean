/- Two closed facts on the program that every law's statement asks. -/
import Derived.Test.YtoammbfipinejaaChecked
import Derived.Test.YtoammbfipinejaaRows
import Derived.Test.YtoammbfipinejaaFrame
namespace Go.Proofs.Ytoammbfipinejaa
open Go.RowKit
theorem own : ownKnob Try.prog.godebug = none := by kernel_rfl
theorem laidOut : laidOutB Try.prog = true := by kernel_rfl
end Go.Proofs.Ytoammbfipinejaa
