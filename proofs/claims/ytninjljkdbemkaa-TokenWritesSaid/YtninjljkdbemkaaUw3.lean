/- The walks of the package utf, further: Fold, Prefix, Text, Right. -/
import Derived.Test.YtninjljkdbemkaaUw2
namespace Go.Proofs.Ytninjljkdbemkaa
open Go.RowKit

theorem getElem_str {s : ByteArray} {l : List UInt8} (h : IsStr s l) (k : Nat) (hk : k < s.size) (hk' : k < l.length) : s[k] = l[k] := by
  have := h.out
  subst this
  rfl

theorem cells_heap {w : World} {g : Nat} {cur : Array Value} {e : TypeId} {fz : Nat × Nat} (h : w.heap[g]? = some (.cells cur e fz)) (j : Nat) : w.cell? ⟨g, j, none⟩ = cur[j]? := by
  simp [World.cell?, h]
theorem frozen_heap {w : World} {g : Nat} {cur : Array Value} {e : TypeId} {fz : Nat × Nat} (h : w.heap[g]? = some (.cells cur e fz)) (j : Nat) (hj : j < fz.1) : w.frozen? ⟨g, j, none⟩ = false := by
  obtain ⟨lo, hi⟩ := fz
  simp only [World.frozen?, h]
  simp at hj
  simp
  omega
theorem setCell_heap {w : World} {g : Nat} {cur : Array Value} {e : TypeId} {fz : Nat × Nat} (h : w.heap[g]? = some (.cells cur e fz)) (j : Nat) (v : Value) :
    (w.setCell ⟨g, j, none⟩ v).heap[g]? = some (.cells (cur.setIfInBounds j v) e fz) := by
  simp [World.setCell, Array.getElem?_modify, h]
theorem Rd.of_heap {w : World} {g n : Nat} {cur : Array Value} {e : TypeId} {fz : Nat × Nat} {xs : List Value} (h : w.heap[g]? = some (.cells cur e fz)) (hx : cur.toList.take n = xs) (hl : xs.length = n) : Rd w (g + 1) 1 (some ⟨g, 0, none⟩) n xs := by
  refine ⟨by omega, fun _ => ⟨_, rfl, Nat.lt_succ_self g, fun j u hu => ?_⟩⟩
  have : (⟨g, 0, none⟩ : Addr).add j = ⟨g, j, none⟩ := by unfold Addr.add; split <;> simp_all
  rw [this, cells_heap h]
  subst hx
  rw [List.getElem?_take] at hu
  split at hu
  · simpa using hu
  · cases hu

theorem bytesRow_take (s : ByteArray) (N : Nat) {l : List UInt8} (h : IsStr s l) : (bytesRow s N).toList.take l.length = Lib.byteCells l := by
  have h1 := h.out
  subst h1
  simp only [bytesRow, Array.toList_append, Array.toList_map]
  rw [List.take_append_of_le_length (by simp), List.take_of_length_le (by simp)]
  rfl
theorem bytesRow_size (s : ByteArray) (N : Nat) : s.size ≤ (bytesRow s N).size := by
  simp only [bytesRow, Array.size_append, Array.size_map]
  exact Nat.le_add_right _ _

set_option maxHeartbeats 400000 in
/-- utf.Fold -/
theorem Fold_any {w : World} {s : ByteArray} {l : List UInt8} (hs : IsStr s l) (hn : l.length ≤ 1000000) :
    Calls Try.prog 56 #[.string s] w fun e w' => ∃ t, e = .returned (.string t) ∧ IsStr t (l.map lower) ∧ Below w.heap.size w w' := by
  have hss := hs.size
  have hsb : s.size ≤ 1000000 := by omega
  have hcb := fun (w : World) => run_bytes_of_string (P := Try.prog) w 9 36 5 s Try.underlying9 Try.underlying36 Try.underlying5
  have HSS := Lib.hid hss
  clear hss
  go_enter Try.func56, Try.ntmps56
  go_wp2
  clear hcb
  go_loopw [10] (fun i wr => ∃ k : Nat, i = .int .i64 k ∧ k ≤ s.size ∧ Below w.heap.size w wr ∧ ∃ cur fz, wr.heap[w.heap.size]? = some (.cells cur 5 fz) ∧ s.size ≤ fz.1 ∧ cur.toList.take l.length = Lib.byteCells ((l.take k).map lower ++ l.drop k)) (fun i _ => s.size - (intOf i).toNat)
  case atStart =>
    refine ⟨0, rfl, Nat.zero_le _, (Below.refl _ w).drew.alloc (Nat.le_refl _) _, _, _, heap_alloc_new w.drew _, ?_, ?_⟩
    · exact bytesRow_size _ _
    · exact bytesRow_take _ _ hs
  case round =>
    obtain ⟨k, rfl, hk, hbw, cur, fz, hh, hfz, hcur⟩ := hrel
    have hss := HSS.out
    by_cases hlt : k < s.size
    · have hkl : k < l.length := by omega
      have hget : cur[k]? = some (.int .u8 (l[k]).toNat) := by
        have h1 : (cur.toList.take l.length)[k]? = cur[k]? := by rw [List.getElem?_take, if_pos hkl]; simp
        rw [← h1, hcur]
        simp only [Lib.byteCells, List.getElem?_map, List.getElem?_append, List.length_map, List.length_take, List.getElem?_drop]
        rw [if_neg (by omega), show k + (k - min k l.length) = k by omega, List.getElem?_eq_getElem hkl]
        rfl
      have hc : wr.cell? ⟨w.heap.size, k, none⟩ = some (.int .u8 (l[k]).toNat) := by rw [cells_heap hh]; exact hget
      have hf : wr.frozen? ⟨w.heap.size, k, none⟩ = false := frozen_heap hh k (by omega)
      have hcur' : (cur.setIfInBounds k (.int .u8 (lower l[k]).toNat)).toList.take l.length = Lib.byteCells ((l.take (k + 1)).map lower ++ l.drop (k + 1)) := by
        rw [Array.toList_setIfInBounds, List.take_set, hcur]
        apply List.ext_getElem?
        intro j
        simp only [Lib.byteCells, List.getElem?_map, List.getElem?_set, List.getElem?_append, List.length_map, List.length_take, List.length_append, List.length_drop, List.getElem?_take, List.getElem?_drop]
        by_cases h1 : j < k
        · rw [if_neg (by omega), if_pos (by omega), if_pos (by omega), if_pos (by omega), if_pos (by omega)]
        · by_cases h2 : j = k
          · subst h2
            rw [if_pos rfl, if_pos (by omega), if_pos (by omega), if_pos (by omega)]
            simp [List.getElem?_eq_getElem hkl]
          · rw [if_neg (by omega), if_neg (by omega), if_neg (by omega), show k + (j - min k l.length) = j by omega, show k + 1 + (j - min (k + 1) l.length) = j by omega]
      have HG := Lib.hid hget
      have HC := Lib.hid hcur
      have HC' := Lib.hid hcur'
      generalize hx : l[k] = x at *
      clear hget hcur hcur' hss hx
      go_wp2_with (go_at_call 66; refine (small_any x _).mono ?_; rintro e w' ⟨rfl, rfl⟩)
      go_roundw
      case rel => exact ⟨k + 1, by go_num, by omega, hbw.setCell (p := ⟨w.heap.size, k, none⟩) (Nat.le_refl _) _, _, fz, setCell_heap hh k _, hfz, HC'.out⟩
      case measure => simp [intOf]; omega
    · have hcv := fun c => run_bytes_str (P := Try.prog) (Rd.of_heap hh (n := s.size) (xs := Lib.byteCells (l.map lower)) (by rw [hss, hcur, show k = l.length by omega]; simp) (by simp [Lib.byteCells, hss])) 36 5 9 c Try.underlying36 Try.underlying5 Try.underlying9
      clear hcur hss
      go_wp2
      go_ret
      exact ⟨_, rfl, IsStr.mk _, hbw⟩
end Go.Proofs.Ytninjljkdbemkaa
