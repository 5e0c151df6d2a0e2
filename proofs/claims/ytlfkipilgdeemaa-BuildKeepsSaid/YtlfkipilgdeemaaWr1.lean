/- The packages dom and strainerref03: Void, Raw. -/
import Derived.Test.YtlfkipilgdeemaaWp
import Derived.Test.YtlfkipilgdeemaaProg
import Derived.KernelRfl
namespace Go.Proofs.Ytlfkipilgdeemaa
open Go.RowKit


set_option maxRecDepth 100000 in
theorem dVoid_any (l : List UInt8) (w : World) : Calls Try.prog 33 #[.string ⟨l.toArray⟩] w fun e w' => e = .returned (.bool (voidL l)) ∧ w = w' := by
  go_enter Try.func33, Try.ntmps33
  go_wp2
  all_goals (go_ret; exact ⟨ret_bool (by simp_all [voidL, Bool.or_assoc]), rfl⟩)
set_option maxRecDepth 100000 in
theorem rVoid_any (l : List UInt8) (w : World) : Calls Try.prog 19 #[.string ⟨l.toArray⟩] w fun e w' => e = .returned (.bool (voidL l)) ∧ w = w' := by
  go_enter Try.func19, Try.ntmps19
  go_wp2
  all_goals (go_ret; exact ⟨ret_bool (by simp_all [voidL, Bool.or_assoc]), rfl⟩)
end Go.Proofs.Ytlfkipilgdeemaa
