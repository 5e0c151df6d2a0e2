/- The laws of layer 1, further: UtfFolds. -/
import Derived.Test.YtpfaojghaggagaaDoorU01d
namespace Go.Proofs.YtpfaojghaggagaaDoor
open Go.RowKit

theorem str_take {t : ByteArray} {l : List UInt8} (ht : IsStr t l) (k : Nat) : IsStr (t.extract 0 k) (l.take k) := by
  rw [ht.to]
  unfold IsStr
  simp [ByteArray.data_extract]
theorem lower_small (c : UInt8) : ¬ (65 ≤ (lower c).toNat ∧ (lower c).toNat ≤ 90) := by
  have h := lower_int c
  have := c.toNat_lt
  split at h <;> omega
theorem lower_lower (c : UInt8) : lower (lower c) = lower c := by
  have h := lower_small c
  generalize lower c = x at *
  unfold lower
  rw [if_neg h]
theorem map_lower (l : List UInt8) : (l.map lower).map lower = l.map lower := by simp [lower_lower]
theorem prefixed_own (l : List UInt8) (k : Nat) : prefixed l ((l.map lower).take k) = true := by
  have h : (l.map lower).take k = (l.take k).map lower := by simp
  rw [h]
  refine prefixed_yes (by simp; omega) ?_
  simp

/-- the number that is counted round -/
theorem mod_at (i : Int) (n : Nat) (h0 : -9223372036854775808 ≤ i) (h1 : i ≤ 9223372036854775807) :
    ∃ kk : Nat, kk ≤ n ∧ (0 ≤ i → i % ((n : Int) + 1) = kk) ∧ (i < 0 → -(i + 1).tmod ((n : Int) + 1) = kk) := by
  by_cases hi : 0 ≤ i
  · have a := Int.emod_nonneg i (show ((n : Int) + 1) ≠ 0 by omega)
    have b := Int.emod_lt_of_pos i (show (0 : Int) < (n : Int) + 1 by omega)
    exact ⟨(i % ((n : Int) + 1)).toNat, by omega, fun _ => by omega, fun h => by omega⟩
  · have a := Int.emod_nonneg (-(i + 1)) (show ((n : Int) + 1) ≠ 0 by omega)
    have b := Int.emod_lt_of_pos (-(i + 1)) (show (0 : Int) < (n : Int) + 1 by omega)
    have e : -(i + 1).tmod ((n : Int) + 1) = (-(i + 1)) % ((n : Int) + 1) := by
      rw [← Int.neg_tmod, Int.tmod_eq_emod_of_nonneg (by omega)]
    exact ⟨((-(i + 1)) % ((n : Int) + 1)).toNat, by omega, fun h => by omega, fun _ => by rw [e]; omega⟩

/-- few, the world behind it under a name of its own -/
theorem few_fresh {w : World} {n c : Nat} {A : Option Addr} {l : List UInt8} (hr : Rd w w.heap.size 1 A n (Lib.byteCells l)) (hnc : n ≤ c) (hc : c ≤ maxLen) :
    Calls Tryd.prog 10 #[.slice A n c] w fun e w' => ∃ A' n' c', e = .returned (.slice A' n' c') ∧ Below w.heap.size w w' ∧ Rd w' w'.heap.size 1 A' n' (Lib.byteCells (l.take 200)) ∧ n' ≤ 200 ∧ n' ≤ c' ∧ c' ≤ maxLen := by
  refine (few_any hr hnc hc).mono ?_
  rintro e w' ⟨A', n', c', h1, rfl, h2, h3⟩
  exact ⟨A', n', c', h1, Below.refl _ _, h2, h3⟩

set_option maxHeartbeats 2000000 in
set_option maxRecDepth 100000 in
/-- strainerlaw01.UtfFolds -/
theorem UtfFolds_calls {w : World} (s0 : ByteArray) (hs0 : s0.size ≤ maxLen) (i : Int) (hi : (Lit.int .i64 i).wf = true) (hT : Tabs w) :
    Calls Tryd.prog 8 #[.string s0, .int .i64 i] w fun e w' => e = .returned (.bool true) ∧ Below w.heap.size w w' := by
  have HT := Lib.hid hT
  obtain ⟨hi0, hi1⟩ : -9223372036854775808 ≤ i ∧ i ≤ 9223372036854775807 := by
    simp [Lit.wf, IntKind.min, IntKind.max, IntKind.signed, IntKind.bits] at hi
    omega
  have hst := IsStr.of s0
  generalize s0.data.toList = l0 at hst
  have hle := len_take l0 200
  have hcb := fun (w : World) => run_bytes_of_string (P := Tryd.prog) w 9 22 5 s0 Tryd.underlying9 Tryd.underlying22 Tryd.underlying5
  clear hT hi
  have hcap : ∀ W : World, s0.size ≤ grownCap W s0.size 0 5 ∧ grownCap W s0.size 0 5 ≤ maxLen := fun W => ⟨grownCap_ge _ _ _ _, grownCap_le_maxLen _ _ _ _ hs0⟩
  by_cases hneg : i < 0
  all_goals
    go_enter Tryd.func8, Tryd.ntmps8
    go_wp2_with fail
    refine (few_fresh (bytes_rd hst w _ _ _) (hcap w).1 (hcap w).2).mono ?_
    rintro e W1 ⟨A', n', c', rfl, b1, hr', h1, h2, h3⟩
    generalize l0.take 200 = l at *
    obtain ⟨s, hs⟩ : ∃ s, IsStr s l := ⟨_, IsStr.mk l⟩
    have hcv := fun c => run_bytes_str (P := Tryd.prog) hr' 22 5 9 c Tryd.underlying22 Tryd.underlying5 Tryd.underlying9
    rw [← hs.to] at hcv
    have B1 := bt (bytes_below w _) b1
    clear hr' hcap hcb b1
    go_wp2_with fail
    clear hcv
    refine (Fold_any hs (by omega)).mono ?_
    rintro e W2 ⟨t, rfl, ht, b2⟩
    have B2 := bt B1 b2
    clear B1 b2
    have hss := hs.size
    have hts := ht.size
    rw [List.length_map] at hts
    have hsb : s.size ≤ 200 := by omega
    have hteq : ((t.size : Int) == (s.size : Int)) = true := by simp; omega
    have htb : t.size ≤ 200 := by omega
    obtain ⟨kk, hkk, hkn, hkp⟩ := mod_at i s.size hi0 hi1
    have hkt : kk ≤ t.size := by omega
    have HSS := Lib.hid hss
    have HTS := Lib.hid hts
    clear hss hts
    have HKP := Lib.hid hkp
    first
      | (have hmod := HKP.out (by omega); clear hkp)
      | (have hmod := hkn (by omega); clear hkn)
    go_wp2_with fail
    try simp only [hmod]
    clear hmod
    go_loop [7] (fun i => ∃ k : Nat, i = .int .i64 k ∧ k ≤ t.size) (fun i => t.size - (intOf i).toNat)
    case atStart => exact ⟨0, rfl, Nat.zero_le _⟩
    case round =>
      obtain ⟨k, rfl, hk⟩ := hrel
      have hts := HTS.out
      by_cases hlt : k < t.size
      · have hkl : k < (l.map lower).length := by rw [List.length_map]; omega
        have e1 := getElem_str ht k hlt hkl
        have hsm : ¬ (65 ≤ (t[k]).toNat ∧ (t[k]).toNat ≤ 90) := by
          rw [e1, List.getElem_map]; exact lower_small _
        clear e1 hkl hts
        by_cases h65 : 65 ≤ (t[k]).toNat
        · have h90 : 90 < (t[k]).toNat := by omega
          clear hsm
          go_wp2
          go_round
          case rel => exact ⟨k + 1, by go_num, by omega⟩
          case measure => simp [intOf]; omega
        · clear hsm
          go_wp2
          go_round
          case rel => exact ⟨k + 1, by go_num, by omega⟩
          case measure => simp [intOf]; omega
      · clear hts
        have hpk := str_take ht kk
        have hpo := prefixed_own l kk
        have HPO := Lib.hid hpo
        clear hpo
        go_wp2_with fail
        refine (Fold_any ht (by rw [List.length_map]; omega)).mono ?_
        rintro e W3 ⟨u, rfl, hu, b3⟩
        rw [map_lower] at hu
        obtain rfl := hu.eq ht rfl
        have B3 := bt B2 b3
        clear b3 B2
        go_wp2_with fail
        refine (Prefix_any hs hpk (by omega) (by rw [List.length_take, List.length_map]; omega)).mono ?_
        rintro e W4 ⟨rfl, b4⟩
        rw [HPO.out]
        have B4 := bt B3 b4
        clear b4 B3
        go_wp2_with fail
        refine (lives01 (HT.out.below B4)).mono ?_
        rintro e W5 ⟨rfl, b5⟩
        go_wp2
        go_ret
        exact ⟨rfl, bt B4 b5⟩
end Go.Proofs.YtpfaojghaggagaaDoor
