/- The law TokenBlanks. -/
import Derived.Test.YtninjljkdbemkaaTbp
namespace Go.Proofs.Ytninjljkdbemkaa
open Go.RowKit

def notq (c : UInt8) : Bool := c.toNat != 34 && c.toNat != 39
def ownL (l : List UInt8) : List UInt8 := l.filter notq
theorem ownL_next {l : List UInt8} {k : Nat} (hk : k < l.length) : ownL (l.take (k + 1)) = ownL (l.take k) ++ (if notq l[k] then [l[k]] else []) := by
  rw [List.take_succ_eq_append_getElem hk]
  simp only [ownL, List.filter_append, List.filter_cons, List.filter_nil]
theorem ownL_le (l : List UInt8) : (ownL l).length ≤ l.length := List.length_filter_le _ _
theorem ownL_bare (l : List UInt8) : ∀ c ∈ ownL l, c ≠ 34 ∧ c ≠ 39 := by
  intro c hc
  have := (List.mem_filter.1 hc).2
  simp only [notq, Bool.and_eq_true, bne_iff_ne] at this
  exact ⟨fun e => this.1 (by rw [e]; rfl), fun e => this.2 (by rw [e]; rfl)⟩

set_option maxHeartbeats 1000000 in
set_option maxRecDepth 100000 in
/-- strainerlaw05.TokenBlanks -/
theorem TokenBlanks_calls {w : World} {n c : Nat} {A : Option Addr} {l0 : List UInt8} (hr : Rd w w.heap.size 1 A n (Lib.byteCells l0)) (hnc : n ≤ c) (hc : c ≤ maxLen) (hM : M0 w) :
    Calls Try.prog 6 #[.slice A n c] w fun e w' => e = .returned (.bool true) ∧ Below w.heap.size w w' := by
  have HM := Lib.hid hM
  clear hM
  unfold maxLen at hc
  obtain ⟨n1, hn1, hr1, hcase1⟩ := cut_to 30 hr
  have hx := right_length (l0.take 30)
  have hl3 := len_take l0 30
  clear hr
  generalize l0.take 30 = l at *
  rcases hcase1 with ⟨h1, rfl⟩ | ⟨h1, rfl, a, rfl⟩
  all_goals
    go_enter Try.func6, Try.ntmps6
    go_wp2_with fail
    refine (RefRight_any hr1 (by omega) (by unfold maxLen; omega) (by omega)).mono ?_
    rintro e W1 ⟨s, rfl, hs, b1⟩
    generalize right l = t at *
    have htl : t.length ≤ 120 := by omega
    have hsz := hs.size
    have hsb : s.size ≤ 120 := by omega
    have HS := Lib.hid hs
    have HSZ := Lib.hid hsz
    clear hr1 hs hsz hx
    go_wp2
    go_loopw [4, 5] (fun v iv wr => ∃ (k : Nat) (D : List UInt8) (A4 : Option Addr) (c4 : Nat), v = .slice A4 D.length c4 ∧ iv = .int .i64 k ∧ k ≤ s.size ∧ D = ownL (t.take k) ∧ D.length ≤ c4 ∧ D.length ≤ 120 ∧
        wr.ownsRow W1.heap.size 5 1 (.slice A4 D.length c4) D.length (Lib.byteCells D) ∧ Below W1.heap.size W1 wr) (fun _ iv _ => s.size - (intOf iv).toNat)
    case atStart => exact ⟨0, [], none, 0, rfl, rfl, Nat.zero_le _, rfl, Nat.le_refl _, Nat.zero_le _, World.ownsRow_nil _ _ _ _, Below.refl _ _⟩
    case round =>
      obtain ⟨k, D, A4, c4, rfl, rfl, hk, hD, hc4, hD1, hown, hb⟩ := hrel
      by_cases hlt : k < s.size
      · have hkl : k < t.length := by rw [← HSZ.out]; exact hlt
        have e1 := s_byte HS.out k hlt hkl
        have HNX := Lib.hid (ownL_next hkl)
        have HDD := Lib.hid hD
        have HDL := Lib.hid (show (ownL (t.take (k + 1))).length ≤ 120 by
          have h1 := ownL_le (t.take (k + 1))
          rw [List.length_take] at h1
          omega)
        clear hD
        generalize t[k] = b at *
        generalize hcc : s[k] = bb at *
        obtain rfl : b = bb := e1.symm
        have hsz1 := hb.size
        by_cases hb1 : b.toNat = 34
        · have q1 : ((b.toNat : Int) != 34) = false := by rw [hb1]; rfl
          have HNB := Lib.hid (show notq b = false by simp [notq, hb1])
          clear hb1
          have HE := Lib.hid (show ownL (t.take k) = ownL (t.take (k + 1)) by rw [HNX.out, HNB.out]; simp)
          go_wp2
          go_roundw
          case rel => exact ⟨k + 1, D, A4, c4, rfl, by go_num, by omega, by rw [HDD.out, HE.out], hc4, hD1, hown, hb⟩
          case measure => simp [intOf]; omega
        · have q1 : ((b.toNat : Int) != 34) = true := by rw [bne_iff_ne]; omega
          by_cases hb2 : b.toNat = 39
          · have q2 : ((b.toNat : Int) != 39) = false := by rw [hb2]; rfl
            have HNB := Lib.hid (show notq b = false by simp [notq, hb2])
            clear hb1 hb2
            have HE := Lib.hid (show ownL (t.take k) = ownL (t.take (k + 1)) by rw [HNX.out, HNB.out]; simp)
            go_wp2
            go_roundw
            case rel => exact ⟨k + 1, D, A4, c4, rfl, by go_num, by omega, by rw [HDD.out, HE.out], hc4, hD1, hown, hb⟩
            case measure => simp [intOf]; omega
          · have q2 : ((b.toNat : Int) != 39) = true := by rw [bne_iff_ne]; omega
            have HNB := Lib.hid (show notq b = true by simp [notq, hb1, hb2])
            have HE := Lib.hid (show D ++ [b] = ownL (t.take (k + 1)) by rw [HNX.out, HNB.out, HDD.out]; simp)
            have hDL2 : D.length + 1 ≤ 120 := by
              have h1 := HDL.out
              rw [← HE.out, List.length_append] at h1
              exact h1
            clear hb1 hb2
            go_wp2_with (at_builtin; go_must (refine wpList_push rfl _ _ _ rfl W1.heap.size rowB A4 D.length c4 (Lib.byteCells D) rfl hown [.int .u8 b.toNat] 1 rfl rfl (by simp [Value.oneCell']) (by unfold maxLen; omega) (by omega) hsz1 ?_))
            intro A6 c6 w6 hc6 ho6 hg6
            have b6 := hb.grown hg6 hsz1 (own_ge hown)
            clear hg6 hown
            go_wp2
            go_roundw
            case rel => exact ⟨k + 1, D ++ [b], A6, c6, by simp, by go_num, by omega, HE.out, by simpa using hc6, by simpa using hDL2, by simpa [Lib.byteCells] using ho6, b6⟩
            case measure => simp [intOf]; omega
      · have hDe : D = ownL t := by rw [hD, List.take_of_length_le (by have := HSZ.out; omega)]
        have HDV := Lib.hid (show ∀ c ∈ D, c ≠ 34 ∧ c ≠ 39 by rw [hDe]; exact ownL_bare t)
        have hcv := fun c => run_bytes_str (P := Try.prog) (Rd.of_own hown) 36 5 9 c Try.underlying36 Try.underlying5 Try.underlying9
        have HC1 := Lib.hid (show (((⟨#[60, 97, 32, 120, 61, 34]⟩ : ByteArray) ++ ⟨D.toArray⟩) ++ ⟨#[34, 62]⟩) = ⟨([60, 97, 32, 120, 61, 34] ++ (D ++ [34, 62]) : List UInt8).toArray⟩ by
          have h1 := cat_str [60, 97, 32, 120, 61, 34] D
          have h2 := cat_str ([60, 97, 32, 120, 61, 34] ++ D) [34, 62]
          rw [List.append_assoc] at h2
          rw [← h2, ← h1])
        have HC2 := Lib.hid (show (((⟨#[60, 65, 32, 10, 47, 32, 61, 32, 88, 9, 61, 32, 39]⟩ : ByteArray) ++ ⟨D.toArray⟩) ++ ⟨#[39, 32, 47, 32, 62]⟩) = ⟨([60, 65, 32, 10, 47, 32, 61, 32, 88, 9, 61, 32, 39] ++ (D ++ [39, 32, 47, 32, 62]) : List UInt8).toArray⟩ by
          have h1 := cat_str [60, 65, 32, 10, 47, 32, 61, 32, 88, 9, 61, 32, 39] D
          have h2 := cat_str ([60, 65, 32, 10, 47, 32, 61, 32, 88, 9, 61, 32, 39] ++ D) [39, 32, 47, 32, 62]
          rw [List.append_assoc] at h2
          rw [← h2, ← h1])
        have HT1 := Lib.hid (toks_one D HDV.out)
        have HT2 := Lib.hid (toks_two D HDV.out)
        have Bw := bt b1 hb
        have hMw := HM.out.below Bw
        clear hown hD hDe b1 hb
        go_wp2_with fail
        rw [HC1.out]
        refine (Tokens_any (l := [60, 97, 32, 120, 61, 34] ++ (D ++ [34, 62])) (IsStr.mk _) (by simp; omega) hMw).mono ?_
        rintro e W2 ⟨A5, c5, rfl, hc5, hP, b2⟩
        have hP2 : Toks W2 W2.heap.size A5 _ _ := ToksP.lt hP (fun b hb => hb.2)
        have B2 := bt Bw b2
        have hM2 := HM.out.below B2
        rw [HT1.out] at hP2 hc5 ⊢
        clear hP b2 Bw hMw hcv
        go_wp2_with fail
        rw [HC2.out]
        refine (Tokens_any (l := [60, 65, 32, 10, 47, 32, 61, 32, 88, 9, 61, 32, 39] ++ (D ++ [39, 32, 47, 32, 62])) (IsStr.mk _) (by simp; omega) hM2).mono ?_
        rintro e W3 ⟨A7, c7, rfl, hc7, hP, b3⟩
        have hP3 : Toks W3 W3.heap.size A7 _ _ := ToksP.lt hP (fun b hb => hb.2)
        have B3 := bt B2 b3
        have hM3 := HM.out.below B3
        rw [HT2.out] at hP3 hc7 ⊢
        have hP23 := hP2.on b3
        clear hP b3 B2 hM2 hP2
        go_wp2_with fail
        refine (TSame_yes (l := [⟨1, [97], [([120], dec D)], []⟩]) hP23 hP3 (by simp) (by simp)).mono ?_
        rintro e W4 ⟨rfl, b4⟩
        have B4 := bt B3 b4
        have hM4 := HM.out.below B4
        have hP4 := hP23.on b4
        obtain ⟨a5, A0, c0, rfl, hab, k0, n0, ats0, t0, hc0, hat0⟩ := hP4.at_ (k := 0) (by simp) (by simp)
        rw [Nat.zero_mul, add0] at ats0
        simp only [List.getElem_cons_zero] at ats0
        clear k0 n0 t0 hat0 hP23 hP3 hP4 b4 B3 hM3
        go_wp2_with fail
        refine (lives05 hM4).mono ?_
        rintro e W5 ⟨rfl, b5⟩
        go_wp2
        go_ret
        exact ⟨rfl, bt B4 b5⟩
end Go.Proofs.Ytninjljkdbemkaa
