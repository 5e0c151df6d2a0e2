/- The walks of the package utf, further: Fold, Prefix, Text, Right. -/
import Derived.Test.YtjobaciajfoneaaUw2
namespace Go.Proofs.Ytjobaciajfoneaa
open Go.RowKit

theorem getElem_str {s : ByteArray} {l : List UInt8} (h : IsStr s l) (k : Nat) (hk : k < s.size) (hk' : k < l.length) : s[k] = l[k] := by
  have := h.out
  subst this
  rfl

theorem cells_heap {w : World} {g : Nat} {cur : Array Value} {e : TypeId} {fz : Nat × Nat} (h : w.heap[g]? = some (.cells cur e fz)) (j : Nat) : w.cell? ⟨g, j, none⟩ = cur[j]? := by
  simp [World.cell?, h]
theorem frozen_heap {w : World} {g : Nat} {cur : Array Value} {e : TypeId} {fz : Nat × Nat} (h : w.heap[g]? = some (.cells cur e fz)) (j : Nat) (hj : j < fz.1) : w.frozen? ⟨g, j, none⟩ = false := by
  obtain ⟨lo, hi⟩ := fz
  simp only [World.frozen?, h]
  simp at hj
  simp
  omega
theorem setCell_heap {w : World} {g : Nat} {cur : Array Value} {e : TypeId} {fz : Nat × Nat} (h : w.heap[g]? = some (.cells cur e fz)) (j : Nat) (v : Value) :
    (w.setCell ⟨g, j, none⟩ v).heap[g]? = some (.cells (cur.setIfInBounds j v) e fz) := by
  simp [World.setCell, Array.getElem?_modify, h]
theorem Rd.of_heap {w : World} {g n : Nat} {cur : Array Value} {e : TypeId} {fz : Nat × Nat} {xs : List Value} (h : w.heap[g]? = some (.cells cur e fz)) (hx : cur.toList.take n = xs) (hl : xs.length = n) : Rd w (g + 1) 1 (some ⟨g, 0, none⟩) n xs := by
  refine ⟨by omega, fun _ => ⟨_, rfl, Nat.lt_succ_self g, fun j u hu => ?_⟩⟩
  have : (⟨g, 0, none⟩ : Addr).add j = ⟨g, j, none⟩ := by unfold Addr.add; split <;> simp_all
  rw [this, cells_heap h]
  subst hx
  rw [List.getElem?_take] at hu
  split at hu
  · simpa using hu
  · cases hu

theorem bytesRow_take (s : ByteArray) (N : Nat) {l : List UInt8} (h : IsStr s l) : (bytesRow s N).toList.take l.length = Lib.byteCells l := by
  have h1 := h.out
  subst h1
  simp only [bytesRow, Array.toList_append, Array.toList_map]
  rw [List.take_append_of_le_length (by simp), List.take_of_length_le (by simp)]
  rfl
theorem bytesRow_size (s : ByteArray) (N : Nat) : s.size ≤ (bytesRow s N).size := by
  simp only [bytesRow, Array.size_append, Array.size_map]
  exact Nat.le_add_right _ _

end Go.Proofs.Ytjobaciajfoneaa
