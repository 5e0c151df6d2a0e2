/- The walks of the package utf, further: Right, Is, Text, Fold, Prefix; Same of its reference. -/
import Derived.Test.YtninjljkdbemkaaUw
import Derived.Test.YtninjljkdbemkaaBld
namespace Go.Proofs.Ytninjljkdbemkaa
open Go.RowKit


/-- a byte with a small letter -/
def lower (c : UInt8) : UInt8 := if 65 ≤ c.toNat ∧ c.toNat ≤ 90 then (c.toNat + 32).toUInt8 else c
theorem lower_int (c : UInt8) : ((lower c).toNat : Int) = if 65 ≤ (c.toNat : Int) ∧ (c.toNat : Int) ≤ 90 then (c.toNat : Int) + 32 else c.toNat := by
  have := c.toNat_lt
  unfold lower
  by_cases h : 65 ≤ c.toNat ∧ c.toNat ≤ 90
  · rw [if_pos h, if_pos (by omega)]
    simp only [Nat.toUInt8_eq, UInt8.toNat_ofNat']
    omega
  · rw [if_neg h, if_neg (by omega)]

/-- utf.small -/
theorem small_any (c : UInt8) (w : World) : Calls Try.prog 66 #[.int .u8 c.toNat] w fun e w' => e = .returned (.int .u8 (lower c).toNat) ∧ w' = w := by
  have hc := c.toNat_lt
  rw [lower_int]
  by_cases h : 65 ≤ (c.toNat : Int) ∧ (c.toNat : Int) ≤ 90
  · rw [if_pos h]
    obtain ⟨h1, h2⟩ := h
    go_enter Try.func66, Try.ntmps66
    go_wp2
    go_ret
    exact ⟨by simp; omega, rfl⟩
  · rw [if_neg h]
    by_cases h1 : 65 ≤ (c.toNat : Int)
    · have h2 : ¬ (c.toNat : Int) ≤ 90 := by omega
      go_enter Try.func66, Try.ntmps66
      go_wp2
      go_ret
      exact ⟨rfl, rfl⟩
    · go_enter Try.func66, Try.ntmps66
      go_wp2
      go_ret
      exact ⟨rfl, rfl⟩
end Go.Proofs.Ytninjljkdbemkaa
