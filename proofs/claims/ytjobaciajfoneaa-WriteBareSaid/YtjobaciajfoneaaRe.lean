/- The walk of strainerref02.Escape. -/
import Derived.Test.YtjobaciajfoneaaRw6
namespace Go.Proofs.Ytjobaciajfoneaa
open Go.RowKit


end Go.Proofs.Ytjobaciajfoneaa
