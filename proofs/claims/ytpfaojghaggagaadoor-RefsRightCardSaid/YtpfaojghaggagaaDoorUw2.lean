/- The walks of the package utf, further: Right, Is, Text, Fold, Prefix; Same of its reference. -/
import Derived.Test.YtpfaojghaggagaaDoorUw
import Derived.Test.YtpfaojghaggagaaDoorBld
namespace Go.Proofs.YtpfaojghaggagaaDoor
open Go.RowKit

/-- strainerref01.Same of one list twice -/
theorem Same_yes {w : World} {B n c c' : Nat} {A A' : Option Addr} {xs : List Int} (ha : Rd w B 1 A n (xs.map (Value.int .i32))) (hb : Rd w B 1 A' n (xs.map (Value.int .i32))) (hn : n ≤ 1000000) :
    Calls Tryd.prog 17 #[.slice A n c, .slice A' n c'] w fun e w' => e = .returned (.bool true) ∧ Below w.heap.size w w' := by
  have hne : ((n : Int) != (n : Int)) = false := by simp
  go_enter Tryd.func17, Tryd.ntmps17
  go_wp2
  go_loopw [5] (fun i wr => ∃ k : Nat, i = .int .i64 k ∧ k ≤ n ∧ Below w.heap.size w wr ∧ Rd wr B 1 A n (xs.map (Value.int .i32)) ∧ Rd wr B 1 A' n (xs.map (Value.int .i32))) (fun i _ => n - (intOf i).toNat)
  case atStart => exact ⟨0, rfl, Nat.zero_le _, Below.refl _ _, ha, hb⟩
  case round =>
    obtain ⟨k, rfl, hk, hbw, ha', hb'⟩ := hrel
    by_cases hlt : k < n
    · obtain ⟨a, u, rfl, _, hu, hc⟩ := ha'.at_ hlt
      obtain ⟨a', u', rfl, _, hu', hc'⟩ := hb'.at_ hlt
      have : u' = u := by rw [hu] at hu'; exact (Option.some.inj hu').symm
      subst this
      obtain ⟨x, rfl⟩ : ∃ x : Int, u' = .int .i32 x := by
        rw [List.getElem?_map] at hu
        obtain ⟨x, _, hx⟩ := Option.map_eq_some_iff.1 hu
        exact ⟨x, hx.symm⟩
      have hxx : (x != x) = false := by simp
      clear hu hu'
      have g0 : (0 : Int) ≤ (k : Int) := by omega
      have g1 : (k : Int) < (n : Int) := by omega
      go_wp2
      go_quiet (fail)
      go_wp2
      go_roundw
      case rel => exact ⟨k + 1, by go_num, by omega, below_drewN hbw _, ha'.drewN _, hb'.drewN _⟩
      case measure => simp [intOf]; omega
    · go_wp2
      go_ret
      exact ⟨rfl, hbw⟩

/-- a byte with a small letter -/
def lower (c : UInt8) : UInt8 := if 65 ≤ c.toNat ∧ c.toNat ≤ 90 then (c.toNat + 32).toUInt8 else c
theorem lower_int (c : UInt8) : ((lower c).toNat : Int) = if 65 ≤ (c.toNat : Int) ∧ (c.toNat : Int) ≤ 90 then (c.toNat : Int) + 32 else c.toNat := by
  have := c.toNat_lt
  unfold lower
  by_cases h : 65 ≤ c.toNat ∧ c.toNat ≤ 90
  · rw [if_pos h, if_pos (by omega)]
    simp only [Nat.toUInt8_eq, UInt8.toNat_ofNat']
    omega
  · rw [if_neg h, if_neg (by omega)]

/-- utf.small -/
theorem small_any (c : UInt8) (w : World) : Calls Tryd.prog 32 #[.int .u8 c.toNat] w fun e w' => e = .returned (.int .u8 (lower c).toNat) ∧ w' = w := by
  have hc := c.toNat_lt
  rw [lower_int]
  by_cases h : 65 ≤ (c.toNat : Int) ∧ (c.toNat : Int) ≤ 90
  · rw [if_pos h]
    obtain ⟨h1, h2⟩ := h
    go_enter Tryd.func32, Tryd.ntmps32
    go_wp2
    go_ret
    exact ⟨by simp; omega, rfl⟩
  · rw [if_neg h]
    by_cases h1 : 65 ≤ (c.toNat : Int)
    · have h2 : ¬ (c.toNat : Int) ≤ 90 := by omega
      go_enter Tryd.func32, Tryd.ntmps32
      go_wp2
      go_ret
      exact ⟨rfl, rfl⟩
    · go_enter Tryd.func32, Tryd.ntmps32
      go_wp2
      go_ret
      exact ⟨rfl, rfl⟩
end Go.Proofs.YtpfaojghaggagaaDoor
