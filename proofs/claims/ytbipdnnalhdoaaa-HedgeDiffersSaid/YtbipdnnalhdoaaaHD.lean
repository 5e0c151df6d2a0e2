/- Opening a law's arguments: numbers, lists of numbers, lists of lists of numbers. -/
import Derived.Test.YtbipdnnalhdoaaaHB
import Derived.Test.YtbipdnnalhdoaaaOpen
namespace Go.Proofs.Ytbipdnnalhdoaaa
open Go.ChangeShapes Go.WideShapes Go.ChangeAt Go.RowKit

theorem intB_of_wf {z : Int} (h : (Lit.int .i64 z).wf = true) : IntB z := by
  have hw : (decide (IntKind.i64.min ≤ z) && decide (z ≤ IntKind.i64.max)) = true := h
  rw [Bool.and_eq_true, decide_eq_true_eq, decide_eq_true_eq] at hw
  exact hw
theorem cellsIs : Try.prog.cellsOf 24 = 1 := by kernel_rfl
theorem cellsI : Try.prog.cellsOf 3 = 1 := by kernel_rfl
section
variable {H : Type} {enc : TypeId × Value → H} {W : World}
set_option maxRecDepth 100000 in
/-- a slice of numbers, among cells -/
theorem open_is {m : Nat} {cs : List Value} {x : DataW H × List MemPlace} (h : DataW.trod enc Try.prog W 0 (fun _ => true) true m 24 cs = some x) :
    ∃ (A : Option Addr) (c : Nat) (l : List Int), cs = [.slice A l.length c] ∧ Cap l.length c ∧ SlP W (fun b => b < W.heap.size) 1 A l.length (l.map .i) ∧ ∀ z ∈ l, IntB z := by
  rcases open_ints Try.underlying24 Try.underlying3 cellsI h with ⟨hcs, _⟩ | ⟨x, l, c', zs, hcs, _, hl, hm, hz, _, hcell, hwz⟩
  · exact ⟨none, 0, [], hcs, ⟨Nat.le_refl _, by decide⟩, SlP.nil _ _ _ _, by simp⟩
  · simp only [if_true] at hz
    have hlen : (zs.take l).length = l := by rw [List.length_take]; omega
    refine ⟨some x, c', zs.take l, by rw [hlen]; exact hcs, by rw [hlen]; exact ⟨hl, hm⟩, ?_, fun z hz => intB_of_wf (hwz z (List.mem_of_mem_take hz))⟩
    rw [hlen]
    refine ⟨(zs.take l).map (Value.int .i64 ·), ⟨by simp; omega, fun hne => ⟨x, rfl, ?_, fun j u hj => ?_⟩⟩, CsIsP.ints _ _ _⟩
    · have h0 : 0 < zs.length := by
        rcases zs with _ | ⟨z, zs⟩
        · simp at hne
        · simp
      have := World.block_lt_of_cell? W _ (hcell 0 h0)
      rwa [block_add] at this
    · rw [List.getElem?_map, List.getElem?_take] at hj
      split at hj
      · rename_i hjn
        have hjl : j < zs.length := by omega
        rw [hcell j hjl, ← hj, List.getD_eq_getElem?_getD, List.getElem?_eq_getElem hjl]
        rfl
      · cases hj
set_option maxRecDepth 100000 in
/-- a parameter that is a list of numbers -/
theorem open_is_arg {v : Value} {d : DataW H} {p : List MemPlace} {b0 : Nat} (hv : Value.okWide Try.prog W .any b0 24 v) (h : DataW.Trod enc Try.prog W 0 (fun _ => true) true 24 v d p) :
    ∃ (A : Option Addr) (c : Nat) (l : List Int), v = .slice A l.length c ∧ Cap l.length c ∧ SlP W (fun b => b < W.heap.size) 1 A l.length (l.map .i) ∧ ∀ z ∈ l, IntB z := by
  obtain ⟨A, n, c, rfl⟩ := okWide_slice Try.underlying24 hv
  obtain ⟨fuel, hf⟩ := h
  obtain ⟨A', c', l, h1, h2, h3, h4⟩ := open_is hf
  simp [Value.cells] at h1
  obtain ⟨rfl, rfl, rfl⟩ := h1
  exact ⟨A, c, l, rfl, h2, h3, h4⟩
theorem rows_cells {a : Addr} {len : Nat} (ha : ∀ i, i < len → ∃ (l : List Int) (v : Value), (∀ z ∈ l, IntB z) ∧ CIsP W (fun b => b < W.heap.size) (rowC l) v ∧ W.cell? (a.add i) = some v) :
    ∃ (ls : List (List Int)) (xs : List Value), ls.length = len ∧ (∀ l ∈ ls, ∀ z ∈ l, IntB z) ∧ CsIsP W (fun b => b < W.heap.size) (ls.map rowC) xs ∧ ∀ j u, xs[j]? = some u → W.cell? (a.add j) = some u := by
  induction len with
  | zero => exact ⟨[], [], rfl, by simp, CsIsP.nil _ _, fun j u h => by simp at h⟩
  | succ len ih =>
    obtain ⟨ls, xs, h1, h0, h2, h3⟩ := ih (fun i hi => ha i (by omega))
    obtain ⟨l, v, hk, h4, h5⟩ := ha len (by omega)
    refine ⟨ls ++ [l], xs ++ [v], by simp [h1], fun l' hl' => ?_, by rw [List.map_append]; exact h2.append (CsIsP.cons h4 (CsIsP.nil _ _)), fun j u hj => ?_⟩
    · rcases List.mem_append.1 hl' with h | h
      · exact h0 l' h
      · rw [List.mem_singleton] at h; subst h; exact hk
    · have hl := h2.len
      rw [List.length_map] at hl
      by_cases hlt : j < xs.length
      · rw [List.getElem?_append_left hlt] at hj; exact h3 j u hj
      · rw [List.getElem?_append_right (by omega)] at hj
        have hj0 : j - xs.length = 0 := by
          have := (List.getElem?_eq_some_iff.1 hj).1
          simp at this
          omega
        rw [hj0] at hj
        injection hj with hj
        have : j = len := by omega
        rw [this, ← hj]
        exact h5
set_option maxRecDepth 100000 in
theorem open_rows {m : Nat} {cs : List Value} {x : DataW H × List MemPlace} (h : DataW.trod enc Try.prog W 0 (fun _ => true) true m 23 cs = some x) :
    ∃ (A : Option Addr) (c : Nat) (ls : List (List Int)), cs = [.slice A ls.length c] ∧ Cap ls.length c ∧ RowsIn W A ls := by
  rcases DataW.trod_slice Try.underlying23 h with ⟨h1, _⟩ | ⟨a, len, cap, elems, rest, n, hmn, h1, _, _, hl, hm, hel, hat, _⟩
  · exact ⟨none, 0, [], h1, ⟨Nat.le_refl _, by decide⟩, ⟨SlP.nil _ _ _ _, by simp, by simp⟩⟩
  · rw [cellsIs] at hat
    obtain ⟨ls, xs, h2, h0, h3, h4⟩ := rows_cells (W := W) (a := a) (len := len) (fun i hi => by
      have h2 := hat i hi
      rw [List.getElem?_eq_getElem (by omega)] at h2
      obtain ⟨cs', h3, h4⟩ := Option.bind_eq_some_iff.1 h2
      obtain ⟨_, _, h5⟩ := World.cells?_some h3
      obtain ⟨A', c', l, rfl, hc, hsl, hb⟩ := open_is h4
      refine ⟨l, _, hb, CIsP.sl hsl hc, ?_⟩
      have := h5 0 (by omega)
      rw [add_add, Nat.mul_one] at this
      simpa using this)
    refine ⟨some a, cap, ls, by rw [h2]; exact h1, by rw [h2]; exact ⟨hl, hm⟩, ⟨⟨xs, ⟨by rw [h3.len, List.length_map, Nat.mul_one], fun hne => ⟨a, rfl, ?_, h4⟩⟩, h3⟩, by rw [h2]; exact Nat.le_trans hl hm, h0⟩⟩
    have h0 : 0 < xs.length := List.length_pos_iff.2 hne
    have := World.block_lt_of_cell? W _ (h4 0 _ (List.getElem?_eq_getElem h0))
    rwa [block_add] at this
set_option maxRecDepth 100000 in
/-- a parameter that is a list of lists of numbers -/
theorem open_rows_arg {v : Value} {d : DataW H} {p : List MemPlace} {b0 : Nat} (hv : Value.okWide Try.prog W .any b0 23 v) (h : DataW.Trod enc Try.prog W 0 (fun _ => true) true 23 v d p) :
    ∃ (A : Option Addr) (c : Nat) (ls : List (List Int)), v = .slice A ls.length c ∧ Cap ls.length c ∧ RowsIn W A ls := by
  obtain ⟨A, n, c, rfl⟩ := okWide_slice Try.underlying23 hv
  obtain ⟨fuel, hf⟩ := h
  obtain ⟨A', c', ls, h1, h2, h3⟩ := open_rows hf
  simp [Value.cells] at h1
  obtain ⟨rfl, rfl, rfl⟩ := h1
  exact ⟨A, c, ls, rfl, h2, h3⟩
end
end Go.Proofs.Ytbipdnnalhdoaaa
