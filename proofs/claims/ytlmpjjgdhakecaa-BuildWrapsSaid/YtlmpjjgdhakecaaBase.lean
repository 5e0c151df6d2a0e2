/- What every row of this seat needs. -/
import Derived.Test.YtlmpjjgdhakecaaRows
import Derived.Test.YtlmpjjgdhakecaaProg
import Derived.Test.YtlmpjjgdhakecaaOpen
import Derived.KernelRfl
import Derived.MakeChecks
namespace Go.Proofs.Ytlmpjjgdhakecaa
open Go.ChangeShapes Go.WideShapes Go.ChangeAt Go.RowKit

theorem own : ownKnob Try.prog.godebug = none := by kernel_rfl
theorem laidOut : laidOutB Try.prog = true := by kernel_rfl
end Go.Proofs.Ytlmpjjgdhakecaa
