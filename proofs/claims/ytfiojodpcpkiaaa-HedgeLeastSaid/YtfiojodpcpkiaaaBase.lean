/- What every row of this seat needs. -/
import Derived.Test.YtfiojodpcpkiaaaRows
import Derived.Test.YtfiojodpcpkiaaaProg
import Derived.Test.YtfiojodpcpkiaaaOpen
import Derived.KernelRfl
import Derived.MakeChecks
namespace Go.Proofs.Ytfiojodpcpkiaaa
open Go.ChangeShapes Go.WideShapes Go.ChangeAt Go.RowKit

theorem own : ownKnob Try.prog.godebug = none := by kernel_rfl
theorem laidOut : laidOutB Try.prog = true := by kernel_rfl
end Go.Proofs.Ytfiojodpcpkiaaa
