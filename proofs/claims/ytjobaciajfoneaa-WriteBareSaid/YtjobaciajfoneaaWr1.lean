/- The packages dom and strainerref03: Void, Raw. -/
import Derived.Test.YtjobaciajfoneaaWp
import Derived.Test.YtjobaciajfoneaaProg
import Derived.KernelRfl
namespace Go.Proofs.Ytjobaciajfoneaa
open Go.RowKit


set_option maxRecDepth 100000 in
theorem dVoid_any (l : List UInt8) (w : World) : Calls Try.prog 32 #[.string ⟨l.toArray⟩] w fun e w' => e = .returned (.bool (voidL l)) ∧ w = w' := by
  go_enter Try.func32, Try.ntmps32
  go_wp2
  all_goals (go_ret; exact ⟨ret_bool (by simp_all [voidL, Bool.or_assoc]), rfl⟩)
set_option maxRecDepth 100000 in
theorem dRaw_any (l : List UInt8) (w : World) : Calls Try.prog 33 #[.string ⟨l.toArray⟩] w fun e w' => e = .returned (.bool (rawL l)) ∧ w = w' := by
  go_enter Try.func33, Try.ntmps33
  go_wp2
  all_goals (go_ret; exact ⟨ret_bool (by simp_all [rawL]), rfl⟩)
set_option maxRecDepth 100000 in
theorem rVoid_any (l : List UInt8) (w : World) : Calls Try.prog 13 #[.string ⟨l.toArray⟩] w fun e w' => e = .returned (.bool (voidL l)) ∧ w = w' := by
  go_enter Try.func13, Try.ntmps13
  go_wp2
  all_goals (go_ret; exact ⟨ret_bool (by simp_all [voidL, Bool.or_assoc]), rfl⟩)
set_option maxRecDepth 100000 in
theorem rRaw_any (l : List UInt8) (w : World) : Calls Try.prog 14 #[.string ⟨l.toArray⟩] w fun e w' => e = .returned (.bool (rawL l)) ∧ w = w' := by
  go_enter Try.func14, Try.ntmps14
  go_wp2
  all_goals (go_ret; exact ⟨ret_bool (by simp_all [rawL]), rfl⟩)
end Go.Proofs.Ytjobaciajfoneaa
