/- The laws of layer 1, further: UtfJoins, UtfRound, UtfFolds. -/
import Derived.Test.YtpfaojghaggagaaDoorU01b
import Derived.Deep.DeepFit
namespace Go.Proofs.YtpfaojghaggagaaDoor
open Go.RowKit

theorem str_append {s t : ByteArray} {l m : List UInt8} (hs : IsStr s l) (ht : IsStr t m) : IsStr (s ++ t) (l ++ m) := by
  rw [hs.to, ht.to]
  unfold IsStr
  simp

/-- a slice cut to its first K elements, as 'if len(a) > K { a = a[:K] }' leaves it -/
theorem cut_to {w : World} {B n : Nat} {A : Option Addr} {l : List UInt8} (K : Nat) (hr : Rd w B 1 A n (Lib.byteCells l)) :
    ∃ n1, n1 ≤ K ∧ Rd w B 1 A n1 (Lib.byteCells (l.take K)) ∧ ((n ≤ K ∧ n1 = n) ∨ (¬ n ≤ K ∧ n1 = K ∧ ∃ a, A = some a)) := by
  by_cases hn : n ≤ K
  · refine ⟨n, hn, ?_, .inl ⟨hn, rfl⟩⟩
    have hl := hr.len
    rw [Lib.byteCells_length] at hl
    rw [List.take_of_length_le (by omega)]; exact hr
  · refine ⟨K, Nat.le_refl _, ?_, .inr ⟨hn, rfl, ?_⟩⟩
    · have := hr.take (k := K) (by omega)
      rwa [Nat.mul_one, byteCells_take] at this
    · obtain ⟨a, e, _⟩ := hr.2 (by
        intro e
        have := hr.len
        rw [e] at this
        simp at this
        omega)
      exact ⟨a, e⟩

set_option maxHeartbeats 2000000 in
/-- strainerlaw01.UtfJoins -/
theorem UtfJoins_calls {w : World} {n c m d : Nat} {A B : Option Addr} {l0 k0 : List UInt8} (hr : Rd w w.heap.size 1 A n (Lib.byteCells l0)) (hnc : n ≤ c) (hc : c ≤ maxLen) (hq : Rd w w.heap.size 1 B m (Lib.byteCells k0)) (hmd : m ≤ d) (hd : d ≤ maxLen) (hT : Tabs w) :
    Calls Tryd.prog 6 #[.slice A n c, .slice B m d] w fun e w' => e = .returned (.bool true) ∧ Below w.heap.size w w' := by
  have HT := Lib.hid hT
  unfold maxLen at hc hd
  obtain ⟨n1, hn1, hr1, hcase1⟩ := cut_to 100 hr
  obtain ⟨m1, hm1, hq1, hcase2⟩ := cut_to 100 hq
  have hl1 := len_take l0 100
  have hl2 := len_take k0 100
  clear hT hr hq
  generalize l0.take 100 = l at *
  generalize k0.take 100 = k at *
  have x1 := right_length l
  have x2 := right_length k
  have y1 := runes_length (right l)
  have y2 := runes_length (right k)
  have v1 := right_is l
  have v2 := right_is k
  have hj := isRight_append _ _ v1 v2
  have hja := runes_append _ _ ((isRight_iff _).1 v1).1 ((isRight_iff _).1 v2).1
  generalize hrl : right l = rl at *
  generalize hrk : right k = rk at *
  have HRL := Lib.hid hrl
  have HRK := Lib.hid hrk
  clear hrl hrk
  have HJ := Lib.hid hj
  have HJA := Lib.hid hja
  clear v1 v2 hj hja
  rcases hcase1 with ⟨h1, rfl⟩ | ⟨h1, rfl, a, rfl⟩ <;> rcases hcase2 with ⟨h2, rfl⟩ | ⟨h2, rfl, b, rfl⟩
  all_goals
    go_enter Tryd.func6, Tryd.ntmps6
    go_wp2_with fail
    refine (Right_any hr1 (by omega)).mono ?_
    rintro e W1 ⟨s, rfl, hs, b1⟩
    rw [HRL.out] at hs
    go_wp2_with fail
    refine (Right_any (hq1.on b1) (by omega)).mono ?_
    rintro e W2 ⟨t, rfl, ht, b2⟩
    rw [HRK.out] at ht
    have hss := hs.size
    have hts := ht.size
    have hsb : s.size ≤ 400 := by omega
    have htb : t.size ≤ 400 := by omega
    have hst := str_append hs ht
    have hsts := hst.size
    have hstb : (s ++ t).size ≤ 800 := by rw [List.length_append] at hsts; omega
    have hcs := fun (w : World) => run_bytes_of_string (P := Tryd.prog) w 9 22 5 s Tryd.underlying9 Tryd.underlying22 Tryd.underlying5
    have hct := fun (w : World) => run_bytes_of_string (P := Tryd.prog) w 9 22 5 t Tryd.underlying9 Tryd.underlying22 Tryd.underlying5
    have hcst := fun (w : World) => run_bytes_of_string (P := Tryd.prog) w 9 22 5 (s ++ t) Tryd.underlying9 Tryd.underlying22 Tryd.underlying5
    have B2 := bt b1 b2
    clear b1 b2 hr1 hq1 hss hts hsts
    go_wp2_with fail
    refine (Runes_any (bytes_rd hs W2 _ _ _) (by omega)).mono ?_
    rintro e W3 ⟨A3, c3, rfl, o3, b3⟩
    have R3 := Rd.of_own o3
    have B3 := bt (bt B2 (bytes_below W2 _)) b3
    have s3 := B3.size
    clear B2 b3 o3 hcs
    go_wp2_with (at_builtin; go_must (refine wpList_spread rfl _ _ _ rfl W3.heap.size rowR none 0 0 [] rfl (World.ownsRow_nil _ _ _ _) W3.heap.size A3 (runes rl).length c3 _ rfl R3 (ints_one _ _) (by unfold maxLen; omega) (by omega) (Nat.le_refl _) ?_))
    intro A4 c4 W4 hc4 o4 g4
    have s4 := g4.size
    have b4 := (Below.refl W3.heap.size W3).grown g4 (Nat.le_refl _) (by simp [Value.ownBlock])
    have B4 := bt B3 b4
    clear b4 g4 R3 B3
    go_wp2_with fail
    refine (Runes_any (bytes_rd ht W4 _ _ _) (by omega)).mono ?_
    rintro e W5 ⟨A5, c5, rfl, o5, b5⟩
    have R5 := Rd.of_own o5
    have B5 := bt (bt B4 (bytes_below W4 _)) b5
    have o4b := own_below (own_below o4 (bytes_below W4 _) (Nat.le_refl _)) b5 (Nat.le_refl _)
    have s5 : W4.heap.size ≤ W5.heap.size := (bt (bytes_below W4 _) b5).size
    clear b5 o5 B4 o4 hct
    go_wp2_with (at_builtin; go_must (refine wpList_spread rfl _ _ _ rfl W3.heap.size rowR A4 (runes rl).length c4 _ rfl o4b W5.heap.size A5 (runes rk).length c5 _ rfl R5 (ints_one _ _) (by unfold maxLen; omega) (by omega) (by omega) ?_))
    intro A6 c6 W6 hc6 o6 g6
    have s6 := g6.size
    have B6 := B5.grown g6 (by omega) (fun g hg => by have := own_ge o4b g hg; omega)
    rw [← List.map_append, ← HJA.out] at o6
    have R6 := Rd.of_own o6
    clear o6 g6 o4b R5 B5
    have hlen : (runes rl).length + (runes rk).length = (runes (rl ++ rk)).length := by rw [HJA.out, List.length_append]
    have HL := Lib.hid hlen
    clear hlen
    go_wp2_with fail
    refine (Runes_any (n := s.size + t.size) (by have h := bytes_rd hst W6; simp only [ByteArray.size_append] at h; exact h _ _ _) (by omega)).mono ?_
    rintro e W7 ⟨A7, c7, rfl, o7, b7⟩
    have R7 := Rd.of_own o7
    have b67 := bt (bytes_below W6 _) b7
    have B7 := bt B6 b67
    clear o7 B6 hcst
    go_wp2_with fail
    have R6' := R6.on b67
    rw [HL.out] at R6' ⊢
    have hz : (runes (rl ++ rk)).length ≤ 1000000 := by have := HL.out; omega
    refine (Same_yes R7 R6' hz).mono ?_
    rintro e W8 ⟨rfl, b8⟩
    have B8 := bt B7 b8
    clear B7 b8 b67 b7 R6 R7
    go_wp2_with fail
    refine (Is_any hst (by rw [List.length_append]; omega) (HT.out.below B8)).mono ?_
    rintro e W9 ⟨rfl, b9⟩
    rw [HJ.out]
    have B9 := bt B8 b9
    clear B8 b9
    go_wp2_with fail
    refine (lives01 (HT.out.below B9)).mono ?_
    rintro e W10 ⟨rfl, b10⟩
    go_wp2
    go_ret
    exact ⟨rfl, bt B9 b10⟩
end Go.Proofs.YtpfaojghaggagaaDoor
