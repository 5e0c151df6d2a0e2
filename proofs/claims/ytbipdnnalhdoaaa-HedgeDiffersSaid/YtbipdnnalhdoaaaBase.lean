/- What every row of this seat needs. -/
import Derived.Test.YtbipdnnalhdoaaaRows
import Derived.Test.YtbipdnnalhdoaaaProg
import Derived.Test.YtbipdnnalhdoaaaOpen
import Derived.KernelRfl
import Derived.MakeChecks
namespace Go.Proofs.Ytbipdnnalhdoaaa
open Go.ChangeShapes Go.WideShapes Go.ChangeAt Go.RowKit

theorem own : ownKnob Try.prog.godebug = none := by kernel_rfl
theorem laidOut : laidOutB Try.prog = true := by kernel_rfl
end Go.Proofs.Ytbipdnnalhdoaaa
