/- The walks of the package utf, further: Right, Is, Text, Fold, Prefix; Same of its reference. -/
import Derived.Test.YtjobaciajfoneaaUw
import Derived.Test.YtjobaciajfoneaaBld
namespace Go.Proofs.Ytjobaciajfoneaa
open Go.RowKit


/-- a byte with a small letter -/
def lower (c : UInt8) : UInt8 := if 65 ≤ c.toNat ∧ c.toNat ≤ 90 then (c.toNat + 32).toUInt8 else c
theorem lower_int (c : UInt8) : ((lower c).toNat : Int) = if 65 ≤ (c.toNat : Int) ∧ (c.toNat : Int) ≤ 90 then (c.toNat : Int) + 32 else c.toNat := by
  have := c.toNat_lt
  unfold lower
  by_cases h : 65 ≤ c.toNat ∧ c.toNat ≤ 90
  · rw [if_pos h, if_pos (by omega)]
    simp only [Nat.toUInt8_eq, UInt8.toNat_ofNat']
    omega
  · rw [if_neg h, if_neg (by omega)]

end Go.Proofs.Ytjobaciajfoneaa
