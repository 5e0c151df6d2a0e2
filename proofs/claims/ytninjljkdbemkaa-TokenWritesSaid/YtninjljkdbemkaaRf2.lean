/- The walks of the reference of layer 1, further: Runes, bytes, Text, Right. -/
import Derived.Test.YtninjljkdbemkaaRf1
import Derived.Test.YtninjljkdbemkaaUw3
namespace Go.Proofs.Ytninjljkdbemkaa
open Go.RowKit

theorem Rd.from_ {w : World} {B n k : Nat} {a : Addr} {l : List UInt8} (h : Rd w B 1 (some a) n (Lib.byteCells l)) (hk : k < n) : Rd w B 1 (some (a.add k)) (n - k) (Lib.byteCells (l.drop k)) := by
  have := h.cut (k := k) (cap := n) (by omega) (Nat.le_refl _)
  rw [if_neg (by omega)] at this
  simpa [byteCells_drop] using this

set_option maxHeartbeats 400000 in
/-- strainerref01.Runes -/
theorem RefRunes_any {w : World} {n c : Nat} {A : Option Addr} {l : List UInt8} (hr : Rd w w.heap.size 1 A n (Lib.byteCells l)) (hnc : n ≤ c) (hc : c ≤ maxLen) (hn : n ≤ 1000000) :
    Calls Try.prog 29 #[.slice A n c] w fun e w' => ∃ A' c', e = .returned (.slice A' (runes l).length c') ∧
      w'.ownsRow w.heap.size 21 1 (.slice A' (runes l).length c') (runes l).length ((runes l).map (Value.int .i32)) ∧ Below w.heap.size w w' := by
  have hl : l.length = n := by rw [← hr.len, Lib.byteCells_length]
  have HL := Lib.hid hl
  unfold maxLen at hc
  clear hl
  go_enter Try.func29, Try.ntmps29
  go_wp2
  go_loopw [3, 4] (fun v i wr => ∃ (pos : Nat) (acc : List Int) (A' : Option Addr) (c' : Nat), v = .slice A' acc.length c' ∧ i = .int .i64 pos ∧ pos ≤ n ∧ wr.ownsRow w.heap.size 21 1 (.slice A' acc.length c') acc.length (acc.map (Value.int .i32)) ∧
      Below w.heap.size w wr ∧ acc ++ runes (l.drop pos) = runes l ∧ acc.length ≤ pos) (fun _ i _ => n - (intOf i).toNat)
  case atStart => exact ⟨0, [], none, 0, rfl, rfl, Nat.zero_le _, World.ownsRow_nil _ _ _ _, Below.refl _ _, rfl, Nat.le_refl _⟩
  case round =>
    obtain ⟨pos, acc, A', c', rfl, rfl, hp, hown, hbw, hacc, hal⟩ := hrel
    by_cases hlt : pos < n
    · obtain ⟨a, rfl, _⟩ := hr.byte hlt
      have hcut := (hr.below hbw).from_ hlt
      have hl := HL.out
      have hne : l.drop pos ≠ [] := by intro e; have := congrArg List.length e; simp at this; omega
      have hst := runes_step _ hne
      rw [List.drop_drop] at hst
      rw [hst] at hacc
      have hw1 := Lib.decodeL_width (l.drop pos)
      have hw2 := Lib.decodeL_le (l.drop pos) hne
      have hr1 := Lib.decodeL_rune (l.drop pos)
      rw [List.length_drop] at hw2
      have hpw : pos + (Lib.decodeL (l.drop pos)).2 ≤ n := by omega
      have HACC := Lib.hid hacc
      have hone := One_any (c := c - pos) hcut (by omega) (by omega)
      unfold IsOne at hone
      have HO := Lib.hid hone
      have hsz := hbw.size
      clear hacc hst hne hl hcut hone
      generalize (Lib.decodeL (l.drop pos)).1 = r at *
      generalize (Lib.decodeL (l.drop pos)).2 = wd at *
      go_wp2_with (first
        | (go_at_call 50; refine HO.out.mono ?_; rintro e w' ⟨rfl, rfl⟩)
        | (at_builtin; go_must (refine wpList_push rfl _ _ _ rfl w.heap.size rowR A' acc.length c' _ rfl hown _ _ rfl rfl (by simp [Value.oneCell']) (by unfold maxLen; omega) (by omega) hsz ?_)))
      intro A2 c2 w2 hc2 hown3 hg3
      have hbw3 := hbw.grown hg3 hsz (own_ge hown)
      go_wp2
      go_roundw
      case rel =>
        refine ⟨pos + wd, acc ++ [(r : Int)], A2, c2, by simp, by go_num, by omega, by simpa using hown3, hbw3, ?_, by simp; omega⟩
        rw [← HACC.out]
        simp
      case measure => simp [intOf]; omega
    · have he : acc = runes l := by
        have hl := HL.out
        rw [← hacc, List.drop_of_length_le (by omega), runes_nil, List.append_nil]
      subst he
      clear hacc
      go_wp2
      go_ret
      exact ⟨A', c', rfl, hown, hbw⟩

/-- what bytes tells -/
def BytesPost (r : Int) (w : World) (e : Ending) (w' : World) : Prop :=
  ∃ A n c, e = .returned (.slice A n c) ∧ Rd w' (w.heap.size + 1) 1 A n (Lib.byteCells (Lib.encodeRune r)) ∧ n ≤ 4 ∧ Below w.heap.size w w'
/-- strainerref01.bytes: a character's bytes -/
theorem Bytes_any (r : Int) (w : World) (h0 : -2147483648 ≤ r) (h1 : r ≤ 2147483647) :
    Calls Try.prog 51 #[.int .i32 r] w (BytesPost r w) := by
  have hbad : r < 0 ∨ (55296 ≤ r ∧ r ≤ 57343) ∨ 1114111 < r → Lib.runeCells r = [.int .u8 239, .int .u8 191, .int .u8 189] := fun h => by rw [Lib.runeCells, Lib.encodeRuneZ_bad h]; rfl
  have HB := Lib.hid hbad
  clear hbad
  by_cases c1 : r < 0
  · have HC := Lib.hid (HB.out (by omega))
    go_enter Try.func51, Try.ntmps51
    go_wp2
    go_ret
    exact ⟨_, _, _, rfl, Rd.of_heap (heap_alloc_new w _) (by rw [Lib.byteCells_encodeRune, HC.out]; rfl) (by rw [Lib.byteCells_encodeRune, HC.out]; rfl), by decide, (Below.refl _ _).alloc (Nat.le_refl _) _⟩
  · by_cases c2 : r > 1114111
    · have HC := Lib.hid (HB.out (by omega))
      go_enter Try.func51, Try.ntmps51
      go_wp2
      go_ret
      exact ⟨_, _, _, rfl, Rd.of_heap (heap_alloc_new w _) (by rw [Lib.byteCells_encodeRune, HC.out]; rfl) (by rw [Lib.byteCells_encodeRune, HC.out]; rfl), by decide, (Below.refl _ _).alloc (Nat.le_refl _) _⟩
    · by_cases c3 : 55296 ≤ r
      · by_cases c4 : r ≤ 57343
        · have HC := Lib.hid (HB.out (by omega))
          go_enter Try.func51, Try.ntmps51
          go_wp2
          go_ret
          exact ⟨_, _, _, rfl, Rd.of_heap (heap_alloc_new w _) (by rw [Lib.byteCells_encodeRune, HC.out]; rfl) (by rw [Lib.byteCells_encodeRune, HC.out]; rfl), by decide, (Below.refl _ _).alloc (Nat.le_refl _) _⟩
        · by_cases c5 : r < 65536
          · have HC := Lib.hid (show Lib.runeCells r = [.int .u8 (224 + r / 4096), .int .u8 (128 + r / 64 % 64), .int .u8 (128 + r % 64)] by rw [Lib.runeCells, Lib.encodeRuneZ_three (by omega)]; rfl)
            go_enter Try.func51, Try.ntmps51
            go_wp2
            go_ret
            exact ⟨_, _, _, rfl, Rd.of_heap (heap_alloc_new w _) (by rw [Lib.byteCells_encodeRune, HC.out]; rfl) (by rw [Lib.byteCells_encodeRune, HC.out]; rfl), by decide, (Below.refl _ _).alloc (Nat.le_refl _) _⟩
          · have HC := Lib.hid (show Lib.runeCells r = [.int .u8 (240 + r / 262144), .int .u8 (128 + r / 4096 % 64), .int .u8 (128 + r / 64 % 64), .int .u8 (128 + r % 64)] by rw [Lib.runeCells, Lib.encodeRuneZ_four (by omega) (by omega)]; rfl)
            go_enter Try.func51, Try.ntmps51
            go_wp2
            go_ret
            exact ⟨_, _, _, rfl, Rd.of_heap (heap_alloc_new w _) (by rw [Lib.byteCells_encodeRune, HC.out]; rfl) (by rw [Lib.byteCells_encodeRune, HC.out]; rfl), by decide, (Below.refl _ _).alloc (Nat.le_refl _) _⟩
      · by_cases c5 : r < 128
        · have HC := Lib.hid (show Lib.runeCells r = [.int .u8 r] by rw [Lib.runeCells, Lib.encodeRuneZ_one (by omega) (by omega)]; rfl)
          go_enter Try.func51, Try.ntmps51
          go_wp2
          go_ret
          exact ⟨_, _, _, rfl, Rd.of_heap (heap_alloc_new w _) (by rw [Lib.byteCells_encodeRune, HC.out]; rfl) (by rw [Lib.byteCells_encodeRune, HC.out]; rfl), by decide, (Below.refl _ _).alloc (Nat.le_refl _) _⟩
        · by_cases c6 : r < 2048
          · have HC := Lib.hid (show Lib.runeCells r = [.int .u8 (192 + r / 64), .int .u8 (128 + r % 64)] by rw [Lib.runeCells, Lib.encodeRuneZ_two (by omega) (by omega)]; rfl)
            go_enter Try.func51, Try.ntmps51
            go_wp2
            go_ret
            exact ⟨_, _, _, rfl, Rd.of_heap (heap_alloc_new w _) (by rw [Lib.byteCells_encodeRune, HC.out]; rfl) (by rw [Lib.byteCells_encodeRune, HC.out]; rfl), by decide, (Below.refl _ _).alloc (Nat.le_refl _) _⟩
          · have HC := Lib.hid (show Lib.runeCells r = [.int .u8 (224 + r / 4096), .int .u8 (128 + r / 64 % 64), .int .u8 (128 + r % 64)] by rw [Lib.runeCells, Lib.encodeRuneZ_three (by omega)]; rfl)
            go_enter Try.func51, Try.ntmps51
            go_wp2
            go_ret
            exact ⟨_, _, _, rfl, Rd.of_heap (heap_alloc_new w _) (by rw [Lib.byteCells_encodeRune, HC.out]; rfl) (by rw [Lib.byteCells_encodeRune, HC.out]; rfl), by decide, (Below.refl _ _).alloc (Nat.le_refl _) _⟩

set_option maxHeartbeats 400000 in
/-- strainerref01.Text -/
theorem RefText_any {w : World} {n c : Nat} {A : Option Addr} {l : List Int} (hr : Rd w w.heap.size 1 A n (l.map (Value.int .i32))) (hn : n ≤ 1000000) (hl : ∀ r ∈ l, -2147483648 ≤ r ∧ r ≤ 2147483647) :
    Calls Try.prog 30 #[.slice A n c] w fun e w' => ∃ t, e = .returned (.string t) ∧ IsStr t (enc l) ∧ Below w.heap.size w w' := by
  have hll : l.length = n := by rw [← hr.len, List.length_map]
  have HL := Lib.hid hll
  clear hll
  have HLL := Lib.hid hl
  clear hl
  go_enter Try.func30, Try.ntmps30
  go_wp2
  go_loopw [3, 4] (fun v i wr => ∃ (k m c' : Nat) (A' : Option Addr), v = .slice A' m c' ∧ i = .int .i64 k ∧ k ≤ n ∧ m ≤ 4 * k ∧ wr.ownsRow w.heap.size 5 1 (.slice A' m c') m (Lib.byteCells (enc (l.take k))) ∧ Below w.heap.size w wr) (fun _ i _ => n - (intOf i).toNat)
  case atStart => exact ⟨0, 0, 0, none, rfl, rfl, Nat.zero_le _, Nat.le_refl _, World.ownsRow_nil _ _ _ _, Below.refl _ _⟩
  case round =>
    obtain ⟨k, m, c', A', rfl, rfl, hk, hm, hown, hbw⟩ := hrel
    by_cases hlt : k < n
    · obtain ⟨a, u, rfl, hab, hu, hc⟩ := (hr.below hbw).at_ hlt
      have hl := HL.out
      have hkl : k < l.length := by omega
      rw [List.getElem?_map, List.getElem?_eq_getElem hkl] at hu
      simp only [Option.map_some, Option.some.injEq] at hu
      subst hu
      have hrb := HLL.out l[k] (List.getElem_mem hkl)
      have htk : enc (l.take (k + 1)) = enc (l.take k) ++ Lib.encodeRune l[k] := by
        rw [List.take_succ_eq_append_getElem hkl, enc_append]; simp [enc]
      have HTK := Lib.hid htk
      have hsz := hbw.size
      have hlen := hown.1
      rw [Nat.mul_one] at hlen
      clear htk hl
      generalize l[k] = r at *
      obtain ⟨hr0, hr1⟩ := hrb
      have g0 : (0 : Int) ≤ (k : Int) := by omega
      have g1 : (k : Int) < (n : Int) := by omega
      have HLEN := Lib.hid hlen
      clear hlen
      go_wp2_with (first
        | (go_at_call 51; refine (Bytes_any r _ hr0 hr1).mono ?_; rintro e W1 ⟨Y, m1, c1, rfl, hry, hm1, hb1⟩)
        | (at_builtin; go_must (refine wpList_spread rfl _ _ _ rfl w.heap.size rowB A' m c' _ rfl (own_below hown hb1 (Nat.le_refl _)) (wr.heap.size + 1) Y m1 c1 _ rfl hry (bytes_one _) (by unfold maxLen; omega) (by omega) (by have := hb1.size; omega) ?_)))
      intro A2 c2 w2 hc2 hown3 hg3
      have hbw3 := (hbw.trans (hb1.mono hsz)).grown hg3 (by have := hb1.size; omega) (own_ge (own_below hown hb1 (Nat.le_refl _)))
      rw [← Lib.byteCells_append, ← HTK.out] at hown3
      go_wp2
      go_roundw
      case rel => exact ⟨k + 1, m + m1, c2, A2, by go_num, by go_num, by omega, by omega, hown3, hbw3⟩
      case measure => simp [intOf]; omega
    · have hl := HL.out
      rw [List.take_of_length_le (by omega)] at hown
      have hcv := fun c => run_bytes_str (P := Try.prog) (Rd.of_own hown) 36 5 9 c Try.underlying36 Try.underlying5 Try.underlying9
      clear hl
      go_wp2
      go_ret
      exact ⟨_, rfl, IsStr.mk _, hbw⟩
end Go.Proofs.Ytninjljkdbemkaa
