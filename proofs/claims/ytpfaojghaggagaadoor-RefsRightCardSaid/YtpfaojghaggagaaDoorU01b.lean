/- The laws of layer 1, further: UtfRights, UtfTexts, UtfJoins. -/
import Derived.Test.YtpfaojghaggagaaDoorU01
namespace Go.Proofs.YtpfaojghaggagaaDoor
open Go.RowKit

/-- what '[]byte(s)' lays -/
theorem bytes_rd {s : ByteArray} {l : List UInt8} (hs : IsStr s l) (w : World) (N : Nat) (e : TypeId) (fz : Nat × Nat) :
    Rd (w.drew.alloc (.cells (bytesRow s N) e fz)) (w.drew.alloc (.cells (bytesRow s N) e fz)).heap.size 1 (some ⟨w.heap.size, 0, none⟩) s.size (Lib.byteCells l) := by
  have h := heap_alloc_new w.drew (.cells (bytesRow s N) e fz)
  have := Rd.of_heap (w := w.drew.alloc (.cells (bytesRow s N) e fz)) (g := w.heap.size) (n := s.size) (xs := Lib.byteCells l) h (by rw [hs.size]; exact bytesRow_take s N hs) (by rw [Lib.byteCells_length, hs.size])
  refine this.more ?_
  rw [World.size_alloc]
  exact Nat.le_refl _
theorem bytes_below (w : World) (o : Obj) : Below w.heap.size w (w.drew.alloc o) := (Below.refl _ w).drew.alloc (Nat.le_refl _) o

/-- strainerlaw01.UtfRights -/
theorem UtfRights_calls {w : World} {n c : Nat} {A : Option Addr} {l : List UInt8} (hr : Rd w w.heap.size 1 A n (Lib.byteCells l)) (hnc : n ≤ c) (hc : c ≤ maxLen) (hT : Tabs w) :
    Calls Tryd.prog 3 #[.slice A n c] w fun e w' => e = .returned (.bool true) ∧ Below w.heap.size w w' := by
  have HT := Lib.hid hT
  clear hT
  go_enter Tryd.func3, Tryd.ntmps3
  go_wp2_with fail
  refine (few_any hr hnc hc).mono ?_
  rintro e w' ⟨A', n', c', rfl, rfl, hr', h1, h2, h3⟩
  have hle := len_take l 200
  generalize l.take 200 = m at *
  have hrl := right_length m
  go_wp2_with fail
  refine (Right_any hr' (by omega)).mono ?_
  rintro e W1 ⟨t, rfl, ht, b1⟩
  go_wp2_with fail
  refine (RefRight_any (hr'.on b1) h2 h3 (by omega)).mono ?_
  rintro e W2 ⟨u, rfl, hu, b2⟩
  obtain rfl := hu.eq ht rfl
  have hcb := fun (w : World) => run_bytes_of_string (P := Tryd.prog) w 9 22 5 u Tryd.underlying9 Tryd.underlying22 Tryd.underlying5
  have b12 := bt b1 b2
  have T2 := HT.out.below b12
  clear b1 b2
  have hus := ht.size
  have husb : u.size ≤ 800 := by omega
  clear hus
  go_wp2_with fail
  refine (Is_any ht (by omega) T2).mono ?_
  rintro e W3 ⟨rfl, b3⟩
  rw [right_is]
  have b13 := bt b12 b3
  have T3 := T2.below b3
  clear b12 b3
  go_wp2_with fail
  clear hcb
  refine (Right_any (bytes_rd ht W3 _ _ _) (by omega)).mono ?_
  rintro e W4 ⟨v, rfl, hv, b4⟩
  obtain rfl := hv.eq ht (right_right _ (right_is m))
  have b14 := bt (bt b13 (bytes_below W3 _)) b4
  have T4 := (T3.below (bytes_below W3 _)).below b4
  clear b13 b4
  go_wp2_with fail
  refine (lives01 T4).mono ?_
  rintro e W5 ⟨rfl, b5⟩
  go_wp2
  go_ret
  exact ⟨rfl, bt b14 b5⟩

theorem ints_take (l : List Int) (k : Nat) : (l.map (Value.int .i32)).take k = (l.take k).map (Value.int .i32) := by simp

/-- strainerlaw01.UtfTexts, of at most 60 characters -/
theorem UtfTexts_calls {w : World} {n c : Nat} {A : Option Addr} {l : List Int} (hr : Rd w w.heap.size 1 A n (l.map (Value.int .i32))) (hnc : n ≤ c) (hc : c ≤ maxLen) (hb : ∀ r ∈ l, -2147483648 ≤ r ∧ r ≤ 2147483647) (hT : Tabs w) :
    Calls Tryd.prog 4 #[.slice A n c] w fun e w' => e = .returned (.bool true) ∧ Below w.heap.size w w' := by
  have HT := Lib.hid hT
  have HB := Lib.hid hb
  unfold maxLen at hc
  clear hT hb
  by_cases hn : n ≤ 60
  · go_enter Tryd.func4, Tryd.ntmps4
    go_wp2_with fail
    refine (Text_any hr).mono ?_
    rintro e w' ⟨t, rfl, ht, rfl⟩
    go_wp2_with fail
    refine (RefText_any hr (by omega) HB.out).mono ?_
    rintro e W2 ⟨u, rfl, hu, b2⟩
    obtain rfl := hu.eq ht rfl
    go_wp2_with fail
    refine (lives01 (HT.out.below b2)).mono ?_
    rintro e W5 ⟨rfl, b5⟩
    go_wp2
    go_ret
    exact ⟨rfl, bt b2 b5⟩
  · have hx := hr.take (k := 60) (by omega)
    rw [Nat.mul_one, ints_take] at hx
    obtain ⟨a, rfl, _⟩ := hr.2 (by
      intro e
      have := hr.len
      rw [e] at this
      simp at this
      omega)
    go_enter Tryd.func4, Tryd.ntmps4
    go_wp2_with fail
    refine (Text_any hx).mono ?_
    rintro e w' ⟨t, rfl, ht, rfl⟩
    go_wp2_with fail
    refine (RefText_any hx (by omega) (fun r h => HB.out r (List.mem_of_mem_take h))).mono ?_
    rintro e W2 ⟨u, rfl, hu, b2⟩
    obtain rfl := hu.eq ht rfl
    go_wp2_with fail
    refine (lives01 (HT.out.below b2)).mono ?_
    rintro e W5 ⟨rfl, b5⟩
    go_wp2
    go_ret
    exact ⟨rfl, bt b2 b5⟩
end Go.Proofs.YtpfaojghaggagaaDoor
