/- The law WriteGrows. -/
import Derived.Test.YtcmnbgpamdfpfaaWg
namespace Go.Proofs.Ytcmnbgpamdfpfaa
open Go.RowKit

/-- a slice cut to its first K elements, as 'if len(a) > K { a = a[:K] }' leaves it -/
theorem cut_to {w : World} {B n : Nat} {A : Option Addr} {l : List UInt8} (K : Nat) (hr : Rd w B 1 A n (Lib.byteCells l)) :
    ∃ n1, n1 ≤ K ∧ Rd w B 1 A n1 (Lib.byteCells (l.take K)) ∧ ((n ≤ K ∧ n1 = n) ∨ (¬ n ≤ K ∧ n1 = K ∧ ∃ a, A = some a)) := by
  by_cases hn : n ≤ K
  · refine ⟨n, hn, ?_, .inl ⟨hn, rfl⟩⟩
    have hl := hr.len
    rw [Lib.byteCells_length] at hl
    rw [List.take_of_length_le (by omega)]; exact hr
  · refine ⟨K, Nat.le_refl _, ?_, .inr ⟨hn, rfl, ?_⟩⟩
    · have := hr.take (k := K) (by omega)
      rwa [Nat.mul_one, byteCells_take] at this
    · obtain ⟨a, e, _⟩ := hr.2 (by
        intro e
        have := hr.len
        rw [e] at this
        simp at this
        omega)
      exact ⟨a, e⟩

theorem len_take (l : List UInt8) (k : Nat) : (l.take k).length ≤ k := List.length_take_le _ _

theorem cat_str (a b : List UInt8) : (⟨a.toArray⟩ : ByteArray) ++ ⟨b.toArray⟩ = ⟨(a ++ b).toArray⟩ := by
  apply ByteArray.ext
  simp
theorem grows_bare : textL [.mk 1 [98] [] [] []] = [60, 98, 62, 60, 47, 98, 62] := by decide +kernel
theorem grows_more (v t : List UInt8) : textL [.mk 1 [98] [([105, 100], v)] [] [.mk 2 [] [] t []]] = [60, 98, 32, 105, 100, 61, 34] ++ (esc true v ++ ([34, 62] ++ (esc false t ++ [60, 47, 98, 62]))) := by
  simp [textL, kidsL, oneL, opL, clL, atrL, voidL, rawL, Nd.kind, Nd.name, Nd.attrs]

theorem grows_len (v t : List UInt8) : ((textL [.mk 1 [98] [([105, 100], v)] [] [.mk 2 [] [] t []]]).length : Int) = (textL [.mk 1 [98] [] [] []]).length + 6 + (esc true v).length + (esc false t).length := by
  rw [grows_more, grows_bare]
  simp only [List.length_append, List.length_cons, List.length_nil]
  omega
set_option maxHeartbeats 2000000 in
set_option maxRecDepth 100000 in
/-- strainerlaw04.WriteGrows -/
theorem WriteGrows_calls {w : World} {n c m d : Nat} {A B : Option Addr} {l0 k0 : List UInt8} (hr : Rd w w.heap.size 1 A n (Lib.byteCells l0)) (hnc : n ≤ c) (hc : c ≤ maxLen) (hq : Rd w w.heap.size 1 B m (Lib.byteCells k0)) (hmd : m ≤ d) (hd : d ≤ maxLen) :
    Calls Try.prog 5 #[.slice A n c, .slice B m d] w fun e w' => e = .returned (.bool true) ∧ Below w.heap.size w w' := by
  unfold maxLen at hc hd
  obtain ⟨n1, hn1, hr1, hcase1⟩ := cut_to 40 hr
  obtain ⟨m1, hm1, hq1, hcase2⟩ := cut_to 40 hq
  have hl1 := len_take l0 40
  have hl2 := len_take k0 40
  clear hr hq
  generalize l0.take 40 = l at *
  generalize k0.take 40 = k at *
  have x1 := right_length l
  have x2 := right_length k
  rcases hcase1 with ⟨h1, rfl⟩ | ⟨h1, rfl, a, rfl⟩ <;> rcases hcase2 with ⟨h2, rfl⟩ | ⟨h2, rfl, b, rfl⟩
  all_goals
    go_enter Try.func5, Try.ntmps5
    go_wp2_with fail
    refine (RefRight_any hr1 (by omega) (by unfold maxLen; omega) (by omega)).mono ?_
    rintro e W1 ⟨s, rfl, hs, b1⟩
    generalize right l = t at *
    obtain rfl := hs.to
    clear hs
    go_wp2_with fail
    refine (RefRight_any (hq1.on b1) (by omega) (by unfold maxLen; omega) (by omega)).mono ?_
    rintro e W2 ⟨s, rfl, hs, b2⟩
    generalize right k = v at *
    obtain rfl := hs.to
    clear hs
    have B2 := bt b1 b2
    clear b1 b2
    have hcat : (⟨t.toArray⟩ : ByteArray) ++ ⟨#[120]⟩ = ⟨(t ++ [120]).toArray⟩ := cat_str t [120]
    have ht1 : (t ++ [120]).length ≤ 200 := by rw [List.length_append]; simp only [List.length_cons, List.length_nil]; omega
    generalize t ++ [120] = tx at *
    have e1 := (esc_length true v).2
    have e2 := (esc_length false tx).2
    have HL := Lib.hid (grows_len v tx)
    have hb7 : (textL [.mk 1 [98] [] [] []]).length ≤ 1000000 := by rw [grows_bare]; decide
    have hm7 : (textL [.mk 1 [98] [([105, 100], v)] [] [.mk 2 [] [] tx []]]).length ≤ 1000000 := by
      rw [grows_more]; simp only [List.length_append, List.length_cons, List.length_nil]; omega
    have h1 := nodes_one W2 1 [98] []
    have h3 := nodes_three (W2.alloc (.cells #[.int .i64 1, sv [98], .slice none 0 0, sv [], .slice none 0 0] 33)) [98] [105, 100] v tx
    have hsz : (W2.alloc (.cells #[.int .i64 1, sv [98], .slice none 0 0, sv [], .slice none 0 0] 33)).heap.size = W2.heap.size + 1 := by simp
    rw [hsz] at h3
    clear hsz
    have ba := (((Below.refl (W2.heap.size + 1) (W2.alloc (.cells #[.int .i64 1, sv [98], .slice none 0 0, sv [], .slice none 0 0] 33))).alloc (by simp) (.cells #[sv [105, 100], sv v] 35)).alloc (by simp) (.cells #[.int .i64 2, sv [], .slice none 0 0, sv tx, .slice none 0 0] 33)).alloc (by simp)
      (.cells #[.int .i64 1, sv [98], .slice (some ⟨W2.heap.size + 1, 0, none⟩) 1 1, sv [], .slice (some ⟨W2.heap.size + 1 + 1, 0, none⟩) 1 1] 33)
    have B3 := (((B2.alloc B2.size (.cells #[.int .i64 1, sv [98], .slice none 0 0, sv [], .slice none 0 0] 33)).trans (ba.mono (by have := B2.size; omega))))
    have h1' := h1.below ba
    have HCAT := Lib.hid hcat
    clear hcat h1 ba B2
    go_wp2_with fail
    rw [HCAT.out]
    refine (WLength_any (l := [.mk 1 [98] [([105, 100], v)] [] [.mk 2 [] [] tx []]]) (h3.more (by simp)) (Nat.le_refl 1) hm7).mono ?_
    rintro e W3 ⟨rfl, b3⟩
    have h1'' := h1'.up (b3.mono (by simp)) (by have := b3.size; simp at this; omega : W2.heap.size + 1 ≤ W3.heap.size)
    have B4 := B3.trans (b3.mono B3.size)
    clear h1' h3 b3 B3
    go_wp2_with fail
    refine (WLength_any (l := [.mk 1 [98] [] [] []]) h1'' (Nat.le_refl 1) hb7).mono ?_
    rintro e W4 ⟨rfl, b4⟩
    have B5 := bt B4 b4
    clear h1'' B4 b4
    go_wp2_with fail
    refine (REscape_any (IsStr.mk v) (by omega) true).mono ?_
    rintro e W5 ⟨s5, rfl, hs5, b5⟩
    obtain rfl := hs5.to
    have B6 := bt B5 b5
    clear hs5 B5 b5
    go_wp2_with fail
    rw [HCAT.out]
    refine (REscape_any (IsStr.mk tx) (by omega) false).mono ?_
    rintro e W6 ⟨s6, rfl, hs6, b6⟩
    obtain rfl := hs6.to
    have B7 := bt B6 b6
    clear hs6 B6 b6
    have hq : (((textL [.mk 1 [98] [([105, 100], v)] [] [.mk 2 [] [] tx []]]).length : Int) == (textL [.mk 1 [98] [] [] []]).length + 6 + (esc true v).length + (esc false tx).length) = true := by
      rw [HL.out]; simp
    go_wp2_with fail
    refine (lives04 _).mono ?_
    rintro e W7 ⟨rfl, b7⟩
    go_wp2
    go_ret
    exact ⟨rfl, bt B7 b7⟩
end Go.Proofs.Ytcmnbgpamdfpfaa
