/- The packages dom and strainerref03: Void, Raw. -/
import Derived.Test.YtcmnbgpamdfpfaaWp
import Derived.Test.YtcmnbgpamdfpfaaProg
import Derived.KernelRfl
namespace Go.Proofs.Ytcmnbgpamdfpfaa
open Go.RowKit


set_option maxRecDepth 100000 in
theorem dVoid_any (l : List UInt8) (w : World) : Calls Try.prog 80 #[.string ⟨l.toArray⟩] w fun e w' => e = .returned (.bool (voidL l)) ∧ w = w' := by
  go_enter Try.func80, Try.ntmps80
  go_wp2
  all_goals (go_ret; exact ⟨ret_bool (by simp_all [voidL, Bool.or_assoc]), rfl⟩)
set_option maxRecDepth 100000 in
theorem dRaw_any (l : List UInt8) (w : World) : Calls Try.prog 65 #[.string ⟨l.toArray⟩] w fun e w' => e = .returned (.bool (rawL l)) ∧ w = w' := by
  go_enter Try.func65, Try.ntmps65
  go_wp2
  all_goals (go_ret; exact ⟨ret_bool (by simp_all [rawL]), rfl⟩)
set_option maxRecDepth 100000 in
theorem rVoid_any (l : List UInt8) (w : World) : Calls Try.prog 34 #[.string ⟨l.toArray⟩] w fun e w' => e = .returned (.bool (voidL l)) ∧ w = w' := by
  go_enter Try.func34, Try.ntmps34
  go_wp2
  all_goals (go_ret; exact ⟨ret_bool (by simp_all [voidL, Bool.or_assoc]), rfl⟩)
set_option maxRecDepth 100000 in
theorem rRaw_any (l : List UInt8) (w : World) : Calls Try.prog 35 #[.string ⟨l.toArray⟩] w fun e w' => e = .returned (.bool (rawL l)) ∧ w = w' := by
  go_enter Try.func35, Try.ntmps35
  go_wp2
  all_goals (go_ret; exact ⟨ret_bool (by simp_all [rawL]), rfl⟩)
end Go.Proofs.Ytcmnbgpamdfpfaa
