/- What every row of this seat needs. -/
import Derived.Test.YtcmnbgpamdfpfaaRows
import Derived.Test.YtcmnbgpamdfpfaaProg
import Derived.Test.YtcmnbgpamdfpfaaOpen
import Derived.KernelRfl
import Derived.MakeChecks
namespace Go.Proofs.Ytcmnbgpamdfpfaa
open Go.ChangeShapes Go.WideShapes Go.ChangeAt Go.RowKit

theorem own : ownKnob Try.prog.godebug = none := by kernel_rfl
theorem laidOut : laidOutB Try.prog = true := by kernel_rfl
end Go.Proofs.Ytcmnbgpamdfpfaa
