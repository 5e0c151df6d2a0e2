/- The packages dom and strainerref03: Void, Raw. -/
import Derived.Test.YtninjljkdbemkaaWp
import Derived.Test.YtninjljkdbemkaaProg
import Derived.KernelRfl
namespace Go.Proofs.Ytninjljkdbemkaa
open Go.RowKit


set_option maxRecDepth 100000 in
theorem dRaw_any (l : List UInt8) (w : World) : Calls Try.prog 25 #[.string ⟨l.toArray⟩] w fun e w' => e = .returned (.bool (rawL l)) ∧ w = w' := by
  go_enter Try.func25, Try.ntmps25
  go_wp2
  all_goals (go_ret; exact ⟨ret_bool (by simp_all [rawL]), rfl⟩)
set_option maxRecDepth 100000 in
theorem rVoid_any (l : List UInt8) (w : World) : Calls Try.prog 9 #[.string ⟨l.toArray⟩] w fun e w' => e = .returned (.bool (voidL l)) ∧ w = w' := by
  go_enter Try.func9, Try.ntmps9
  go_wp2
  all_goals (go_ret; exact ⟨ret_bool (by simp_all [voidL, Bool.or_assoc]), rfl⟩)
set_option maxRecDepth 100000 in
theorem rRaw_any (l : List UInt8) (w : World) : Calls Try.prog 8 #[.string ⟨l.toArray⟩] w fun e w' => e = .returned (.bool (rawL l)) ∧ w = w' := by
  go_enter Try.func8, Try.ntmps8
  go_wp2
  all_goals (go_ret; exact ⟨ret_bool (by simp_all [rawL]), rfl⟩)
end Go.Proofs.Ytninjljkdbemkaa
