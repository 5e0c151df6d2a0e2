/- The laws of layer 1, further: UtfRound, UtfFolds. -/
import Derived.Test.YtpfaojghaggagaaDoorU01c
namespace Go.Proofs.YtpfaojghaggagaaDoor
open Go.RowKit

def okB (r : Int) : Bool := decide ((0 ≤ r ∧ r < 55296) ∨ (57343 < r ∧ r ≤ 1114111))
theorem okB_iff (r : Int) : okB r = true ↔ okRune r := by simp [okB, okRune]
theorem filter_take_yes {l : List Int} {k : Nat} (hk : k < l.length) (h : okB l[k] = true) : (l.take (k + 1)).filter okB = (l.take k).filter okB ++ [l[k]] := by
  rw [List.take_succ_eq_append_getElem hk, List.filter_append]; simp [h]
theorem filter_take_no {l : List Int} {k : Nat} (hk : k < l.length) (h : okB l[k] = false) : (l.take (k + 1)).filter okB = (l.take k).filter okB := by
  rw [List.take_succ_eq_append_getElem hk, List.filter_append]; simp [h]

set_option maxHeartbeats 2000000 in
set_option maxRecDepth 100000 in
/-- strainerlaw01.UtfRound -/
theorem UtfRound_calls {w : World} {n c : Nat} {A : Option Addr} {l : List Int} (hr : Rd w w.heap.size 1 A n (l.map (Value.int .i32))) (hnc : n ≤ c) (hc : c ≤ maxLen) (_hb : ∀ r ∈ l, -2147483648 ≤ r ∧ r ≤ 2147483647) (hT : Tabs w) :
    Calls Tryd.prog 7 #[.slice A n c] w fun e w' => e = .returned (.bool true) ∧ Below w.heap.size w w' := by
  have HT := Lib.hid hT
  unfold maxLen at hc
  have hl : l.length = n := by rw [← hr.len, List.length_map]
  have HL := Lib.hid hl
  clear hT hl _hb
  go_enter Tryd.func7, Tryd.ntmps7
  go_wp2
  go_loopw [3, 4] (fun v i wr => ∃ (k m c' : Nat) (A' : Option Addr), v = .slice A' m c' ∧ i = .int .i64 k ∧ k ≤ n ∧ k ≤ 60 ∧ m ≤ k ∧ wr.ownsRow w.heap.size 21 1 (.slice A' m c') m (((l.take k).filter okB).map (Value.int .i32)) ∧ Below w.heap.size w wr) (fun _ i _ => n - (intOf i).toNat)
  case atStart => exact ⟨0, 0, 0, none, rfl, rfl, Nat.zero_le _, Nat.zero_le _, Nat.le_refl _, World.ownsRow_nil _ _ _ _, Below.refl _ _⟩
  case round =>
    obtain ⟨k, m, c', A', rfl, rfl, hk, hk6, hm, hown, hbw⟩ := hrel
    have hsz := hbw.size
    by_cases hlt : k < n ∧ k < 60
    · obtain ⟨hlt, hlt6⟩ := hlt
      have hl := HL.out
      have hkl : k < l.length := by omega
      obtain ⟨a, rfl, hab, hck⟩ := (hr.below hbw).int32 hlt hkl
      have HY := Lib.hid (fun (h : okB l[k] = true) => filter_take_yes hkl h)
      have HN := Lib.hid (fun (h : okB l[k] = false) => filter_take_no hkl h)
      have g0 : (0 : Int) ≤ (k : Int) := by omega
      have g1 : (k : Int) < (n : Int) := by omega
      generalize hLk : l[k] = r at *
      clear hLk hl
      by_cases hok : okB r = true
      · have hF := HY.out hok
        have HF := Lib.hid hF
        have hcases : (0 ≤ r ∧ r < 55296) ∨ (57343 < r ∧ r ≤ 1114111) := (okB_iff r).1 hok
        clear hF hok
        rcases hcases with ⟨o1, o2⟩ | ⟨o1, o2⟩
        all_goals
          go_wp2_with (at_builtin; go_must (refine wpList_push rfl _ _ _ rfl w.heap.size rowR A' m c' _ rfl hown _ _ rfl rfl (by simp [Value.oneCell']) (by unfold maxLen; omega) (by omega) hsz ?_))
          intro A2 c2 w2 hc2 hown3 hg3
          have hbw3 := hbw.grown hg3 hsz (own_ge hown)
          clear hown hg3
          go_wp2
          go_roundw
          case rel => exact ⟨k + 1, m + 1, c2, A2, by go_num, by go_num, by omega, by omega, by omega, by rw [HF.out, List.map_append]; simpa using hown3, hbw3⟩
          case measure => simp [intOf]; omega
      · have hno : okB r = false := by simpa using hok
        have HF := Lib.hid (HN.out hno)
        have hcases : r < 0 ∨ (55296 ≤ r ∧ r ≤ 57343) ∨ 1114111 < r := by
          have : ¬ ((0 ≤ r ∧ r < 55296) ∨ (57343 < r ∧ r ≤ 1114111)) := fun h => hok ((okB_iff r).2 h)
          omega
        clear hok hno
        rcases hcases with o1 | ⟨o1, o2⟩ | o1
        all_goals
          go_wp2
          go_roundw
          case rel => exact ⟨k + 1, m, c', A', rfl, by go_num, by omega, by omega, by omega, by rw [HF.out]; exact hown, hbw⟩
          case measure => simp [intOf]; omega
    · have R0 := Rd.of_own hown
      have hok : ∀ r ∈ (l.take k).filter okB, okRune r := fun r h => (okB_iff r).1 (List.mem_filter.1 h).2
      have hlen := R0.len
      rw [List.length_map] at hlen
      generalize hown_l : (l.take k).filter okB = L at *
      have hre := runes_enc L hok
      have hel := enc_length L
      have HRE := Lib.hid hre
      have HLN := Lib.hid hlen
      have hen1 : (enc L).length ≤ 240 := by omega
      have hen2 : m ≤ (enc L).length := by omega
      clear hre hlen hok hown_l hel hr HL
      have hstop : ¬ (k < n) ∨ (k < n ∧ ¬ k < 60) := by omega
      clear hlt
      rcases hstop with hs1 | ⟨hs0, hs1⟩
      all_goals
        go_wp2_with fail
        refine (Text_any R0).mono ?_
        rintro e w' ⟨t, rfl, ht, rfl⟩
        have hts := ht.size
        have htb : t.size ≤ 240 := by omega
        have htm : (m : Int) ≤ (t.size : Int) := by omega
        clear hts
        have hct := fun (w : World) => run_bytes_of_string (P := Tryd.prog) w 9 22 5 t Tryd.underlying9 Tryd.underlying22 Tryd.underlying5
        go_wp2_with fail
        refine (Runes_any (bytes_rd ht wr _ _ _) (by omega)).mono ?_
        rintro e W1 ⟨A1, c1, rfl, o1, b1⟩
        have R1 := Rd.of_own o1
        rw [HRE.out] at R1 ⊢
        rw [HLN.out] at R1 ⊢
        have b2 := bt (bytes_below wr _) b1
        have R2 := R0.on b2
        have B2 := bt hbw b2
        clear o1 b1 b2 R0 hown hct
        go_wp2_with fail
        refine (Same_yes R1 R2 (by omega)).mono ?_
        rintro e W2 ⟨rfl, b3⟩
        have B3 := bt B2 b3
        clear b3 B2
        go_wp2_with fail
        refine (lives01 (HT.out.below B3)).mono ?_
        rintro e W3 ⟨rfl, b4⟩
        go_wp2
        go_ret
        exact ⟨rfl, bt B3 b4⟩
end Go.Proofs.YtpfaojghaggagaaDoor
