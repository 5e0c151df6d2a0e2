/- The laws of layer 1 (utf): each, called at whatever bytes or characters, returns true; what was in memory stays. Two tables of unicode/utf8 are as the program's text lays them. -/
import Derived.Test.YtpfaojghaggagaaDoorUis
import Derived.Test.YtpfaojghaggagaaDoorRf3
namespace Go.Proofs.YtpfaojghaggagaaDoor
open Go.RowKit

theorem Tabs.keep {w w' : World} (h : Tabs w) (hb : ∀ p : Addr, p.block < w.heap.size → w'.cell? p = w.cell? p) : Tabs w' := by
  have hlt : ∀ {p : Addr} {v : Value}, w.cell? p = some v → w'.cell? p = some v := fun {p v} hv => (hb p (World.block_lt_of_cell? w p hv)).trans hv
  exact ⟨fun c hc => hlt (h.1 c hc), fun i hi => ⟨hlt (h.2 i hi).1, hlt (h.2 i hi).2⟩⟩
theorem Tabs.below {w w' : World} (h : Tabs w) (hb : Below w.heap.size w w') : Tabs w' := h.keep fun _ hp => hb.cell hp
theorem Tabs.alloc {w : World} (h : Tabs w) (o : Obj) : Tabs (w.alloc o) := h.below ((Below.refl _ w).alloc (Nat.le_refl _) o)

theorem lives_a : right [97, 13, 10, 98, 255] = [97, 10, 98, 239, 191, 189] := by decide +kernel
theorem lives_b : ([97, 90] : List UInt8).map lower = [97, 122] := by decide +kernel
theorem lives_c : isRight [97] = true := by decide +kernel

/-- strainerlaw01.lives: the document's example -/
theorem lives01 {w : World} (hT : Tabs w) : Calls Tryd.prog 14 #[] w fun e w' => e = .returned (.bool true) ∧ Below w.heap.size w w' := by
  have hr : Rd (w.alloc (.cells #[.int .u8 97, .int .u8 13, .int .u8 10, .int .u8 98, .int .u8 255] 5)) (w.alloc (.cells #[.int .u8 97, .int .u8 13, .int .u8 10, .int .u8 98, .int .u8 255] 5)).heap.size 1 (some ⟨w.heap.size, 0, none⟩) 5 (Lib.byteCells [97, 13, 10, 98, 255]) :=
    (Rd.of_heap (heap_alloc_new w _) rfl rfl).more (by simp)
  have b0 : Below w.heap.size w (w.alloc (.cells #[.int .u8 97, .int .u8 13, .int .u8 10, .int .u8 98, .int .u8 255] 5)) := (Below.refl _ w).alloc (Nat.le_refl _) _
  have hR := Right_any (c := 5) hr (by omega)
  have hT0 := hT.alloc (.cells #[.int .u8 97, .int .u8 13, .int .u8 10, .int .u8 98, .int .u8 255] 5)
  have HR := Lib.hid hR
  have HT := Lib.hid hT0
  have HB := Lib.hid b0
  clear hR hr hT0 hT b0
  go_enter Tryd.func14, Tryd.ntmps14
  go_wp2_with fail
  refine HR.out.mono ?_
  rintro e W1 ⟨t, rfl, ht, b1⟩
  rw [lives_a] at ht
  obtain rfl := ht.to
  have s1 := b1.size
  have HB1 := Lib.hid b1
  clear b1
  go_wp2_with fail
  refine (Fold_any (IsStr.mk [97, 90]) (by decide)).mono ?_
  rintro e W2 ⟨u, rfl, hu, b2⟩
  rw [lives_b] at hu
  obtain rfl := hu.to
  have s2 := b2.size
  have HB2 := Lib.hid b2
  clear b2
  go_wp2_with fail
  refine (Is_any (IsStr.mk [97]) (by decide) ((HT.out.below HB1.out).below HB2.out)).mono ?_
  rintro e W3 ⟨rfl, b3⟩
  rw [lives_c]
  go_wp2
  go_ret
  refine ⟨rfl, HB.out.trans ((HB1.out.mono (by simp)).trans ((HB2.out.mono ?_).trans (b3.mono ?_)))⟩
  · simp at s1; omega
  · simp at s1; omega

theorem len_take (l : List UInt8) (k : Nat) : (l.take k).length ≤ k := List.length_take_le _ _

/-- strainerlaw01.UtfRunes -/
theorem UtfRunes_calls {w : World} {n c : Nat} {A : Option Addr} {l : List UInt8} (hr : Rd w w.heap.size 1 A n (Lib.byteCells l)) (hnc : n ≤ c) (hc : c ≤ maxLen) (hT : Tabs w) :
    Calls Tryd.prog 5 #[.slice A n c] w fun e w' => e = .returned (.bool true) ∧ Below w.heap.size w w' := by
  have HT := Lib.hid hT
  clear hT
  go_enter Tryd.func5, Tryd.ntmps5
  go_wp2_with fail
  refine (few_any hr hnc hc).mono ?_
  rintro e w' ⟨A', n', c', rfl, rfl, hr', h1, h2, h3⟩
  have hlen := runes_length (l.take 200)
  have hle := len_take l 200
  generalize l.take 200 = m at *
  go_wp2_with fail
  refine (Runes_any hr' (by omega)).mono ?_
  rintro e W1 ⟨A1, c1, rfl, o1, b1⟩
  have R1 := Rd.of_own o1
  go_wp2_with fail
  refine (RefRunes_any (hr'.on b1) h2 h3 (by omega)).mono ?_
  rintro e W2 ⟨A2, c2, rfl, o2, b2⟩
  have R2 := Rd.of_own o2
  have T2 := (HT.out.below b1).below b2
  have b12 := bt b1 b2
  clear b1 o1 o2
  generalize hk : (runes m).length = k at *
  go_wp2_with fail
  refine (Same_yes (R1.on b2) R2 (by omega)).mono ?_
  rintro e W3 ⟨rfl, b3⟩
  have T3 := T2.below b3
  have b13 := bt b12 b3
  clear b2 b12 b3
  go_wp2_with fail
  refine (lives01 T3).mono ?_
  rintro e W4 ⟨rfl, b4⟩
  go_wp2
  go_ret
  exact ⟨rfl, bt b13 b4⟩
end Go.Proofs.YtpfaojghaggagaaDoor
