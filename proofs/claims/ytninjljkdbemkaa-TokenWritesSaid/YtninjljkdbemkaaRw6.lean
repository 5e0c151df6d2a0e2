/- The walks of the package refs: Escape. -/
import Derived.Test.YtninjljkdbemkaaBld
import Derived.Test.YtninjljkdbemkaaRefs
import Derived.Test.YtninjljkdbemkaaStr
namespace Go.Proofs.Ytninjljkdbemkaa
open Go.RowKit

theorem u8_beq {a b : UInt8} (h : a ≠ b) : ((a.toNat : Int) == (b.toNat : Int)) = false := by
  rw [beq_eq_false_iff_ne]
  intro e
  exact h (UInt8.toNat_inj.1 (by omega))
theorem esc_next (v : Bool) {l : List UInt8} {k : Nat} (hk : k < l.length) : esc v (l.take (k + 1)) = esc v (l.take k) ++ escB v l[k] := by
  rw [List.take_succ_eq_append_getElem hk, esc_append]
  simp [esc]
theorem escB_one (v : Bool) {c : UInt8} (h1 : c ≠ 38) (h2 : c ≠ 60) (h3 : c ≠ 62) (h4 : ¬ (c = 34 ∧ v = true)) : escB v c = [c] := by
  unfold escB
  rw [if_neg h1, if_neg h2, if_neg h3, if_neg h4]

end Go.Proofs.Ytninjljkdbemkaa
