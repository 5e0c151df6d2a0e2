/- What every row of this seat needs. -/
import Derived.Test.YtlfkipilgdeemaaRows
import Derived.Test.YtlfkipilgdeemaaProg
import Derived.Test.YtlfkipilgdeemaaOpen
import Derived.KernelRfl
import Derived.MakeChecks
namespace Go.Proofs.Ytlfkipilgdeemaa
open Go.ChangeShapes Go.WideShapes Go.ChangeAt Go.RowKit

theorem own : ownKnob Try.prog.godebug = none := by kernel_rfl
theorem laidOut : laidOutB Try.prog = true := by kernel_rfl
end Go.Proofs.Ytlfkipilgdeemaa
