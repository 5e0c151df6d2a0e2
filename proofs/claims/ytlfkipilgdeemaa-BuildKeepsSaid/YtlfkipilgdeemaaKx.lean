/- Opening a law's arguments: lists of tokens. -/
import Derived.Test.YtlfkipilgdeemaaOpn
import Derived.Test.YtlfkipilgdeemaaKs
namespace Go.Proofs.Ytlfkipilgdeemaa
open Go.ChangeShapes Go.WideShapes Go.ChangeAt Go.RowKit

theorem cellsTok : Try.prog.cellsOf 29 = 4 := by kernel_rfl
section
variable {H : Type} {enc : TypeId × Value → H} {W : World} {sp : Nat → Bool} {held : Bool}
theorem four {cs : List Value} (h : cs.length = 4) : ∃ a b c d, cs = [a, b, c, d] := by
  match cs, h with
  | [a, b, c, d], _ => exact ⟨a, b, c, d, rfl⟩
theorem toks_cells {a : Addr} {len : Nat} (ha : ∀ i, i < len → ∃ (t : Tk) (cs : List Value), KindOk t.kind ∧ TIs W (fun b => b < W.heap.size) t cs ∧ ∀ j u, cs[j]? = some u → W.cell? (a.add (i * 4 + j)) = some u) :
    ∃ l xs, l.length = len ∧ (∀ t ∈ l, KindOk t.kind) ∧ TsIs W (fun b => b < W.heap.size) l xs ∧ ∀ j u, xs[j]? = some u → W.cell? (a.add j) = some u := by
  induction len with
  | zero => exact ⟨[], [], rfl, by simp, TsIs.nil _ _, fun j u h => by simp at h⟩
  | succ len ih =>
    obtain ⟨l, xs, h1, h0, h2, h3⟩ := ih (fun i hi => ha i (by omega))
    obtain ⟨t, cs, hk, h4, h5⟩ := ha len (by omega)
    refine ⟨l ++ [t], xs ++ cs, by simp [h1], fun t' ht' => ?_, h2.append (TsIs.single h4), fun j u hj => ?_⟩
    · rcases List.mem_append.1 ht' with h | h
      · exact h0 t' h
      · rw [List.mem_singleton] at h; subst h; exact hk
    have hl := h2.len
    by_cases hlt : j < xs.length
    · rw [List.getElem?_append_left hlt] at hj; exact h3 j u hj
    · rw [List.getElem?_append_right (by omega)] at hj
      have := h5 _ u hj
      rw [show len * 4 + (j - xs.length) = j by omega] at this
      exact this

set_option maxRecDepth 100000 in
theorem open_toks (m : Nat) {v : Value} {x : DataW H × List MemPlace} (h : DataW.trod enc Try.prog W 0 sp held m 22 [v] = some x) : ∃ A n c l, v = .slice A n c ∧ n ≤ c ∧ c ≤ maxLen ∧ Toks W W.heap.size A n l ∧ ∀ t ∈ l, KindOk t.kind := by
  rcases DataW.trod_slice Try.underlying22 h with ⟨h1, _⟩ | ⟨a, len, cap, elems, rest, n, hmn, h1, _, _, hl, hm, hel, hat, _⟩
  · simp at h1
    exact ⟨none, 0, 0, [], h1, Nat.le_refl _, Nat.zero_le _, ⟨[], RdP.nil _ _ _ _, TsIs.nil _ _⟩, by simp⟩
  · simp at h1
    rw [cellsTok] at hat
    obtain ⟨l, xs, h2, h0, h3, h4⟩ := toks_cells (W := W) (a := a) (len := len) (fun i hi => by
      have h2 := hat i hi
      rw [List.getElem?_eq_getElem (by omega)] at h2
      obtain ⟨cs, h3, h4⟩ := Option.bind_eq_some_iff.1 h2
      obtain ⟨xs, n', hnn, _, hlen, hxs, hf⟩ := DataW.trod_struct Try.underlying29 h4
      obtain ⟨_, _, h5⟩ := World.cells?_some h3
      rw [cellsTok] at hlen
      obtain ⟨v0, v1, v2, v3, rfl⟩ := four hlen
      have hx2 : xs.length = 4 := hxs
      obtain ⟨x0, x1, x2, x3, rfl⟩ : ∃ x0 x1 x2 x3, xs = [x0, x1, x2, x3] := by
        match xs, hx2 with
        | [x0, x1, x2, x3], _ => exact ⟨x0, x1, x2, x3, rfl⟩
      have f0 := hf 0 _ rfl
      have f1 := hf 1 _ rfl
      have f2 := hf 2 _ rfl
      have f3 := hf 3 _ rfl
      simp only [List.getElem_toArray, List.getElem_cons_zero, List.getElem_cons_succ, cellsStr, cellsInt, cellsAttrs] at f0 f1 f2 f3
      obtain ⟨kd, hk, hk2, hk3⟩ := DataW.trod_int Try.underlying3 (cs := [v0]) (x := x0) f0
      simp at hk
      subst hk
      obtain ⟨nm, rfl⟩ := open_str (m := n') (v := v1) (x := x1) f1
      obtain ⟨A1, n1, c1, ats, rfl, ha1, _, ha2⟩ := open_attrs (m := n') (v := v2) (x := x2) f2
      obtain ⟨tx, rfl⟩ := open_str (m := n') (v := v3) (x := x3) f3
      have hal := ha2.len
      subst hal
      refine ⟨⟨kd, nm, ats, tx⟩, _, ?_, ⟨A1, c1, rfl, ha1, ha2⟩, fun j u hj => ?_⟩
      · have hw : (decide (IntKind.i64.min ≤ kd) && decide (kd ≤ IntKind.i64.max)) = true := hk3
        rw [Bool.and_eq_true, decide_eq_true_eq, decide_eq_true_eq] at hw
        exact hw
      · have hj5 : j < 4 := (List.getElem?_eq_some_iff.1 hj).1
        have := h5 j hj5
        rw [add_add, hj] at this
        exact this)
    refine ⟨some a, len, cap, l, h1, hl, hm, ⟨xs, ⟨by rw [h3.len, h2], fun hne => ⟨a, rfl, ?_, h4⟩⟩, h3⟩, h0⟩
    have h0 : 0 < xs.length := List.length_pos_iff.2 hne
    have := World.block_lt_of_cell? W _ (h4 0 _ (List.getElem?_eq_getElem h0))
    rwa [block_add] at this

set_option maxRecDepth 100000 in
/-- a parameter that is a list of tokens -/
theorem open_toks_arg {v : Value} {d : DataW H} {p : List MemPlace} {b0 : Nat} (hv : Value.okWide Try.prog W .any b0 22 v) (h : DataW.Trod enc Try.prog W 0 (fun _ => true) true 22 v d p) :
    ∃ A n c l, v = .slice A n c ∧ n ≤ c ∧ c ≤ maxLen ∧ Toks W W.heap.size A n l ∧ ∀ t ∈ l, KindOk t.kind := by
  obtain ⟨A, n, c, rfl⟩ := okWide_slice Try.underlying22 hv
  obtain ⟨fuel, hf⟩ := h
  obtain ⟨A', n', c', l, h1, h2, h3, h4, h5⟩ := open_toks fuel (v := .slice A n c) (by simpa [Value.cells] using hf)
  exact ⟨A', n', c', l, h1, h2, h3, h4, h5⟩
end
end Go.Proofs.Ytlfkipilgdeemaa
