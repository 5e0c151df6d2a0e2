/- The packages dom and strainerref03: Void, Raw. -/
import Derived.Test.YtlmpjjgdhakecaaWp
import Derived.Test.YtlmpjjgdhakecaaProg
import Derived.KernelRfl
namespace Go.Proofs.Ytlmpjjgdhakecaa
open Go.RowKit


set_option maxRecDepth 100000 in
theorem dVoid_any (l : List UInt8) (w : World) : Calls Try.prog 35 #[.string ⟨l.toArray⟩] w fun e w' => e = .returned (.bool (voidL l)) ∧ w = w' := by
  go_enter Try.func35, Try.ntmps35
  go_wp2
  all_goals (go_ret; exact ⟨ret_bool (by simp_all [voidL, Bool.or_assoc]), rfl⟩)
set_option maxRecDepth 100000 in
theorem rVoid_any (l : List UInt8) (w : World) : Calls Try.prog 21 #[.string ⟨l.toArray⟩] w fun e w' => e = .returned (.bool (voidL l)) ∧ w = w' := by
  go_enter Try.func21, Try.ntmps21
  go_wp2
  all_goals (go_ret; exact ⟨ret_bool (by simp_all [voidL, Bool.or_assoc]), rfl⟩)
end Go.Proofs.Ytlmpjjgdhakecaa
