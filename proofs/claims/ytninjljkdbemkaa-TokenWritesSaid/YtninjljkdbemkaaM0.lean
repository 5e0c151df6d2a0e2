/- The library's own variable holds some number: of every world of the right shape. -/
import Derived.Test.YtninjljkdbemkaaTw6
import Derived.Shelf.Vars
import Derived.HandedShaped
namespace Go.Proofs.Ytninjljkdbemkaa
open Go.RowKit

theorem M0_of {W : World} (h : W.ShapedOpen Try.prog) : M0 W :=
  Go.Proofs.cell_of_shapedOpen_int (zero := #[.int .i64 0]) (t := 3) h (of_decide_eq_true (by kernel_rfl)) (by kernel_rfl) rfl (by kernel_rfl) (by kernel_rfl) Try.underlying3
end Go.Proofs.Ytninjljkdbemkaa
