/- Opening a law's arguments: lists of strings. -/
import Derived.Test.YtjobaciajfoneaaOpn
namespace Go.Proofs.Ytjobaciajfoneaa
open Go.ChangeShapes Go.WideShapes Go.ChangeAt Go.RowKit

def strCells (l : List (List UInt8)) : List Value := l.map sv
theorem weightsAll_mem {H : Type} {P : Program} {t : TypeId} {n : Nat} : ∀ {l : List (DataW H)} {d : DataW H}, d ∈ l → n ∈ d.weights P t → n ∈ DataW.weightsAll P t l
  | d0 :: l, d, hd, hn => by
    simp only [DataW.weightsAll, List.mem_append]
    rcases List.mem_cons.1 hd with rfl | hd
    · exact .inl hn
    · exact .inr (weightsAll_mem hd hn)
section
variable {H : Type} {enc : TypeId × Value → H} {W : World} {sp : Nat → Bool} {held : Bool}
theorem open_strs {m : Nat} {v : Value} {x : DataW H × List MemPlace} (h : DataW.trod enc Try.prog W 0 sp held m 22 [v] = some x) : ∃ A n c l, v = .slice A n c ∧ n ≤ c ∧ c ≤ maxLen ∧ Rd W W.heap.size 1 A n (strCells l) ∧
    ∀ s ∈ l, s.length ∈ x.1.weights Try.prog 22 := by
  rcases DataW.trod_slice Try.underlying22 h with ⟨h1, _⟩ | ⟨a, len, cap, elems, rest, n, _, h1, hx, _, hl, hm, hel, hat, _⟩
  · simp at h1
    exact ⟨none, 0, 0, [], h1, Nat.le_refl _, Nat.zero_le _, Rd.nil _ _ _ _, fun s hs => by cases hs⟩
  · simp at h1
    rw [cellsStr] at hat
    obtain ⟨l, hll, hlp⟩ := list_of (α := List UInt8) (p := fun i b => W.cell? (a.add i) = some (sv b) ∧ ∃ y, elems[i]? = some y ∧ y.1 = .lit (.string b)) len (fun i hi => by
      have h2 := hat i hi
      rw [List.getElem?_eq_getElem (by omega)] at h2
      obtain ⟨cs, h3, h4⟩ := Option.bind_eq_some_iff.1 h2
      obtain ⟨_, hlen, h5⟩ := World.cells?_some h3
      have hc1 : cs.length = 1 := hlen
      obtain ⟨u, rfl⟩ : ∃ u, cs = [u] := by
        match cs, hc1 with
        | [u], _ => exact ⟨u, rfl⟩
      obtain ⟨s, hs, hd, _⟩ := DataW.trod_string Try.underlying9 h4
      simp at hs
      refine ⟨s.data.toList, ?_, _, List.getElem?_eq_getElem (by omega), by rw [hd]⟩
      have := h5 0 (by omega)
      rw [add_add] at this
      rw [show sv s.data.toList = Value.string s by rw [← (IsStr.of s).sv], ← hs]
      simpa using this)
    refine ⟨some a, len, cap, l, h1, hl, hm, ?_, ?_⟩
    refine ⟨by simp [strCells, hll], fun hne => ⟨a, rfl, ?_, fun j u hj => ?_⟩⟩
    · have h0 : 0 < l.length := by
        cases l with
        | nil => simp [strCells] at hne
        | cons => simp
      have := World.block_lt_of_cell? W _ (hlp 0 h0).1
      rwa [block_add] at this
    · have hj2 : j < l.length := by
        have := (List.getElem?_eq_some_iff.1 hj).1
        simpa [strCells] using this
      rw [(hlp j hj2).1]
      simp only [strCells, List.getElem?_map, List.getElem?_eq_getElem hj2, Option.map_some] at hj
      exact hj
    · intro s hs
      obtain ⟨i, hi, rfl⟩ := List.mem_iff_getElem.1 hs
      obtain ⟨_, y, hy, hd⟩ := hlp i hi
      rw [hx]
      simp only [DataW.weights, Try.underlying22]
      refine List.mem_cons_of_mem _ (List.mem_append_left _ (weightsAll_mem (d := y.1) (List.mem_map_of_mem (List.mem_of_getElem? hy)) ?_))
      rw [hd]
      simp [DataW.weights]
set_option maxRecDepth 100000 in
/-- a parameter that is a list of strings -/
theorem open_strs_arg {v : Value} {d : DataW H} {p : List MemPlace} {b0 : Nat} (hv : Value.okWide Try.prog W .any b0 22 v) (h : DataW.Trod enc Try.prog W 0 (fun _ => true) true 22 v d p) :
    ∃ A n c l, v = .slice A n c ∧ n ≤ c ∧ c ≤ maxLen ∧ Rd W W.heap.size 1 A n (strCells l) ∧ ∀ s ∈ l, s.length ∈ d.weights Try.prog 22 := by
  obtain ⟨A, n, c, rfl⟩ := okWide_slice Try.underlying22 hv
  obtain ⟨fuel, hf⟩ := h
  obtain ⟨A', n', c', l, h1, h2, h3, h4, h5⟩ := open_strs (v := .slice A n c) (by simpa [Value.cells] using hf)
  exact ⟨A', n', c', l, h1, h2, h3, h4, h5⟩
end
end Go.Proofs.Ytjobaciajfoneaa
