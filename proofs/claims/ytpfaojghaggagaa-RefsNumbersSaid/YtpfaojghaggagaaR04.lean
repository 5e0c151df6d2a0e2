/- The law RefsNumbers. -/
import Derived.Test.YtpfaojghaggagaaR01
import Derived.Test.YtpfaojghaggagaaNum
namespace Go.Proofs.Ytpfaojghaggagaa
open Go.RowKit

/-- the number that is counted round -/
theorem mod_at2 (i : Int) (n : Nat) (h0 : -9223372036854775808 ≤ i) (h1 : i ≤ 9223372036854775807) :
    ∃ kk : Nat, kk ≤ n ∧ (0 ≤ i → i % ((n : Int) + 1) = kk) ∧ (i < 0 → -(i + 1).tmod ((n : Int) + 1) = kk) := by
  by_cases hi : 0 ≤ i
  · have a := Int.emod_nonneg i (show ((n : Int) + 1) ≠ 0 by omega)
    have b := Int.emod_lt_of_pos i (show (0 : Int) < (n : Int) + 1 by omega)
    exact ⟨(i % ((n : Int) + 1)).toNat, by omega, fun _ => by omega, fun h => by omega⟩
  · have a := Int.emod_nonneg (-(i + 1)) (show ((n : Int) + 1) ≠ 0 by omega)
    have b := Int.emod_lt_of_pos (-(i + 1)) (show (0 : Int) < (n : Int) + 1 by omega)
    have e : -(i + 1).tmod ((n : Int) + 1) = (-(i + 1)) % ((n : Int) + 1) := by
      rw [← Int.neg_tmod, Int.tmod_eq_emod_of_nonneg (by omega)]
    exact ⟨((-(i + 1)) % ((n : Int) + 1)).toNat, by omega, fun h => by omega, fun _ => by rw [e]; omega⟩

theorem one_cell (w : World) (d : UInt8) (t : TypeId) : Rd (w.alloc (.cells #[.int .u8 d.toNat] t)) (w.heap.size + 1) 1 (some ⟨w.heap.size, 0, none⟩) 1 (Lib.byteCells [d]) := by
  refine ⟨rfl, fun _ => ⟨_, rfl, Nat.lt_succ_self _, fun j u hu => ?_⟩⟩
  have e : (⟨w.heap.size, 0, none⟩ : Addr).add j = ⟨w.heap.size, j, none⟩ := by unfold Addr.add; split <;> simp_all
  rw [e, Lib.cell_of_heap (heap_alloc_new w _)]
  match j, hu with
  | 0, hu =>
    simp [Lib.byteCells] at hu ⊢
    exact hu
def TensInv (N k : Nat) (acc : List UInt8) : Prop := Inv 10 7 N k acc ∧ k * 10 ^ acc.length ≤ 1114111 ∧ 0 < k + acc.length ∧ ∀ c ∈ acc, c ≠ 120 ∧ c ≠ 88
theorem TensInv.start {N : Nat} (h0 : 0 < N) (h : N ≤ 1114111) : TensInv N N [] := ⟨Inv.start _ _ _, by simpa using h, by simpa using h0, by simp⟩
theorem TensInv.len {N k : Nat} {acc : List UInt8} (h : TensInv N k acc) (hk : 0 < k) : acc.length ≤ 6 := by
  have h1 := h.2.1
  apply Nat.le_of_not_lt
  intro hl
  have h2 : 10 ^ 7 ≤ 10 ^ acc.length := Nat.pow_le_pow_right (by omega) hl
  have h3 : 1 * 10 ^ acc.length ≤ k * 10 ^ acc.length := Nat.mul_le_mul_right _ hk
  have h4 : (10 : Nat) ^ 7 = 10000000 := by decide
  omega
theorem TensInv.step {N k : Nat} {acc : List UInt8} (h : TensInv N k acc) (hk : 0 < k) : TensInv N (k / 10) ((48 + k % 10).toUInt8 :: acc) := by
  obtain ⟨q1, q2, q3, q4, _⟩ := dig10 (k % 10) (Nat.mod_lt _ (by omega))
  refine ⟨Inv.step (base := 10) h.1 _ q2 q1, ?_, by rw [List.length_cons]; omega, ?_⟩
  · rw [List.length_cons, Nat.pow_succ, Nat.mul_comm (10 ^ acc.length) 10, ← Nat.mul_assoc]
    exact Nat.le_trans (Nat.mul_le_mul_right _ (Nat.div_mul_le_self k 10)) h.2.1
  · intro c hc
    rcases List.mem_cons.1 hc with rfl | hc
    · exact ⟨q3, q4⟩
    · exact h.2.2.2 c hc
def HexInv (N k : Nat) (acc : List UInt8) : Prop := Inv 16 6 N k acc ∧ k * 16 ^ acc.length ≤ 1114111 ∧ 0 < k + acc.length
theorem HexInv.start {N : Nat} (h0 : 0 < N) (h : N ≤ 1114111) : HexInv N N [] := ⟨Inv.start _ _ _, by simpa using h, by simpa using h0⟩
theorem HexInv.len {N k : Nat} {acc : List UInt8} (h : HexInv N k acc) (hk : 0 < k) : acc.length ≤ 5 := by
  have h1 := h.2.1
  apply Nat.le_of_not_lt
  intro hl
  have h2 : 16 ^ 6 ≤ 16 ^ acc.length := Nat.pow_le_pow_right (by omega) hl
  have h3 : 1 * 16 ^ acc.length ≤ k * 16 ^ acc.length := Nat.mul_le_mul_right _ hk
  have h4 : (16 : Nat) ^ 6 = 16777216 := by decide
  omega
theorem HexInv.step {N k : Nat} {acc : List UInt8} (h : HexInv N k acc) (hk : 0 < k) (d : UInt8) (h59 : d ≠ 59) (hd : digitOf (d.toNat : Int) 16 = ((k % 16 : Nat) : Int)) : HexInv N (k / 16) (d :: acc) := by
  refine ⟨Inv.step (base := 16) h.1 _ h59 hd, ?_, by rw [List.length_cons]; omega⟩
  rw [List.length_cons, Nat.pow_succ, Nat.mul_comm (16 ^ acc.length) 16, ← Nat.mul_assoc]
  exact Nat.le_trans (Nat.mul_le_mul_right _ (Nat.div_mul_le_self k 16)) h.2.1

set_option maxHeartbeats 1000000 in
set_option maxRecDepth 100000 in
/-- strainerlaw02.RefsNumbers -/
theorem RefsNumbers_calls {w : World} (i : Int) (hi : (Lit.int .i64 i).wf = true) :
    Calls Try.prog 6 #[.int .i64 i] w fun e w' => e = .returned (.bool true) ∧ Below w.heap.size w w' := by
  obtain ⟨hi0, hi1⟩ : -9223372036854775808 ≤ i ∧ i ≤ 9223372036854775807 := by
    simp [Lit.wf, IntKind.min, IntKind.max, IntKind.signed, IntKind.bits] at hi
    omega
  clear hi
  obtain ⟨N, hN, hkn, hkp⟩ := mod_at2 i 1114111 hi0 hi1
  have e2 : ((1114111 : Nat) : Int) + 1 = 1114112 := rfl
  rw [e2] at hkn hkp
  clear e2
  have HKP := Lib.hid hkp
  by_cases hneg : i < 0
  all_goals
    go_enter Try.func6, Try.ntmps6
    first
      | (have hmod := HKP.out (by omega); clear hkp hkn HKP)
      | (have hmod := hkn (by omega); clear hkn hkp HKP)
    have HM := Lib.hid hmod
    clear hmod
    go_wp2_with fail
  all_goals
    have hmod := HM.out
    try have hN0 : N ≠ 0 ∧ N ≠ 13 ∧ ¬ (55296 ≤ N ∧ N ≤ 57343) := by omega
    clear HM
    simp only [hmod] at *
    clear hmod
    try (refine (lives02 _).mono ?_; rintro e W1 ⟨rfl, b1⟩; go_wp2; go_ret; exact ⟨rfl, b1⟩)
  all_goals
    obtain ⟨n0, n13, ns⟩ := hN0
    have hNF : charOf (N : Int) = N := charOf_same _ (by omega) (by omega) (by omega) (by omega)
    have HNF := Lib.hid hNF
    clear hNF
    go_loopw [4, 5] (fun tv kv wr => ∃ (k : Nat) (t : ByteArray) (acc : List UInt8), tv = .string t ∧ kv = .int .i64 k ∧ IsStr t acc ∧ Below w.heap.size w wr ∧ TensInv N k acc ∧ k ≤ N ∧ acc.length ≤ 7) (fun _ kv _ => (intOf kv).toNat)
    case atStart => exact ⟨N, _, [], rfl, rfl, rfl, Below.refl _ w, TensInv.start (by omega) hN, Nat.le_refl _, by simp⟩
    case round =>
      obtain ⟨k, t, acc, rfl, rfl, ht, hbw, hinv, hkN, hal⟩ := hrel
      have hts := ht.size
      have htb : t.size ≤ 7 := by omega
      have HT := Lib.hid ht
      clear ht hts
      by_cases hk : 0 < k
      · have hlen := hinv.len hk
        have hnx := hinv.step hk
        have hcell := one_cell wr (48 + k % 10).toUInt8 5
        have hdn := (dig10 (k % 10) (Nat.mod_lt _ (by omega))).2.2.2.2
        have hcv := fun c => run_bytes_str (P := Try.prog) hcell 28 5 9 c Try.underlying28 Try.underlying5 Try.underlying9
        have hc2 : ((48 + k % 10 : Nat) : Int) = 48 + (k : Int) % 10 := by omega
        simp only [hdn, hc2] at hcv
        have HNX := Lib.hid hnx
        have hkd : k / 10 < k := Nat.div_lt_self hk (by omega)
        clear hcell hdn hc2 hnx hinv
        generalize (48 + k % 10).toUInt8 = d at *
        go_wp2_with fail
        go_roundw
        case rel => exact ⟨k / 10, ⟨#[d]⟩ ++ t, d :: acc, rfl, by go_num, s_append (t := ⟨#[d]⟩) (l := [d]) rfl HT.out, hbw.alloc hbw.size _, HNX.out, by omega, by rw [List.length_cons]; omega⟩
        case measure => simp [intOf]; omega
      · obtain rfl : k = 0 := by omega
        have hal0 : 0 < acc.length := by have := hinv.2.2.1; omega
        have hot := one_tens hinv.1 hal0 hal hinv.2.2.2 HNF.out
        rw [← HT.out.size] at hot
        have HOT := Lib.hid hot
        clear hot hinv
        go_wp2_with fail
        go_loopw [7, 8] (fun tv kv wr => ∃ (k : Nat) (t : ByteArray) (acc : List UInt8), tv = .string t ∧ kv = .int .i64 k ∧ IsStr t acc ∧ Below w.heap.size w wr ∧ HexInv N k acc ∧ k ≤ N ∧ acc.length ≤ 6) (fun _ kv _ => (intOf kv).toNat)
        case atStart => exact ⟨N, _, [], rfl, rfl, rfl, hbw, HexInv.start (by omega) hN, Nat.le_refl _, by simp⟩
        case round =>
          obtain ⟨k, u, bcc, rfl, rfl, hu, hbw2, hinv, hkN2, hbl⟩ := hrel
          have hus := hu.size
          have hub : u.size ≤ 6 := by omega
          have HU := Lib.hid hu
          clear hus hu
          by_cases hk : 0 < k
          · have hlen := hinv.len hk
            have hxlt : k % 16 < 16 := Nat.mod_lt _ (by omega)
            obtain ⟨d, hd1, hd2, hd3⟩ := dig16 (k % 16) hxlt
            have hnx := hinv.step hk d hd3 hd2
            have HNX := Lib.hid hnx
            have hkd : k / 16 < k := Nat.div_lt_self hk (by omega)
            clear hnx hinv hd2 hd3
            have hone : IsStr ((⟨#[48, 49, 50, 51, 52, 53, 54, 55, 56, 57, 97, 98, 99, 100, 101, 102]⟩ : ByteArray).extract (k % 16) (k % 16 + 1)) [d] := by
              have := s_part (t := ⟨#[48, 49, 50, 51, 52, 53, 54, 55, 56, 57, 97, 98, 99, 100, 101, 102]⟩) (l := hexs) rfl (k % 16) (k % 16 + 1)
              rw [show k % 16 + 1 - k % 16 = 1 by omega, hd1] at this
              exact this
            have HONE := Lib.hid hone
            clear hd1 hone
            go_wp2_with fail
            go_roundw
            case rel => exact ⟨k / 16, _, d :: bcc, rfl, by go_num, s_append HONE.out HU.out, hbw2, HNX.out, by omega, by rw [List.length_cons]; omega⟩
            case measure => simp [intOf]; omega
          · obtain rfl : k = 0 := by omega
            have hbl0 : 0 < bcc.length := by have := hinv.2.2; omega
            have hox := one_hex hinv.1 hbl0 hbl HNF.out
            rw [← HU.out.size] at hox
            have HOX := Lib.hid hox
            clear hox hinv
            go_wp2_with fail
            refine (RefsOne_any (s_append (s_append (t := ⟨#[38, 35]⟩) (l := [38, 35]) rfl HT.out) (u := ⟨#[59, 120]⟩) (m := [59, 120]) rfl) (by simp only [List.length_append, List.length_cons, List.length_nil]; omega)).mono ?_
            rintro e W1 ⟨he, b1⟩
            rw [HOT.out] at he
            obtain rfl := he.out
            have B1 := bt hbw2 b1
            clear he b1 hbw2
            go_wp2_with fail
            refine (RefsOne_any (s_append (s_append (t := ⟨#[38, 35, 120]⟩) (l := [38, 35, 120]) rfl HU.out) (u := ⟨#[59, 120]⟩) (m := [59, 120]) rfl) (by simp only [List.length_append, List.length_cons, List.length_nil]; omega)).mono ?_
            rintro e W2 ⟨he, b2⟩
            rw [HOX.out] at he
            obtain rfl := he.out
            have B2 := bt B1 b2
            clear he b2 B1
            go_wp2_with fail
            refine (lives02 _).mono ?_
            rintro e W7 ⟨rfl, b7⟩
            go_wp2
            go_ret
            exact ⟨rfl, bt B2 b7⟩
end Go.Proofs.Ytpfaojghaggagaa
