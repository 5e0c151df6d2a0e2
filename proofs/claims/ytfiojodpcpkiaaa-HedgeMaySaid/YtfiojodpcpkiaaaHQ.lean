/- Opening a law's argument: an automaton. -/
import Derived.Test.YtfiojodpcpkiaaaHD
import Derived.Test.YtfiojodpcpkiaaaHq
namespace Go.Proofs.Ytfiojodpcpkiaaa
open Go.ChangeShapes Go.WideShapes Go.ChangeAt Go.RowKit

theorem cellsSd : Try.prog.cellsOf 26 = 2 := by kernel_rfl
theorem cellsHd : Try.prog.cellsOf 28 = 4 := by kernel_rfl
theorem cellsRows : Try.prog.cellsOf 23 = 1 := by kernel_rfl
theorem cellsSds : Try.prog.cellsOf 22 = 1 := by kernel_rfl
section
variable {H : Type} {enc : TypeId × Value → H} {W : World}
theorem two_of {cs : List Value} (h : cs.length = 2) : ∃ a b, cs = [a, b] := by
  match cs, h with
  | [a, b], _ => exact ⟨a, b, rfl⟩
theorem four_of {cs : List Value} (h : cs.length = 4) : ∃ a b c d, cs = [a, b, c, d] := by
  match cs, h with
  | [a, b, c, d], _ => exact ⟨a, b, c, d, rfl⟩
set_option maxRecDepth 100000 in
theorem open_side {m : Nat} {cs : List Value} {x : DataW H × List MemPlace} (h : DataW.trod enc Try.prog W 0 (fun _ => true) true m 26 cs = some x) :
    ∃ (s : Sd) (B : Option Addr) (c1 : Nat) (C : Option Addr) (c2 : Nat), cs = [.slice B s.nx.length c1, .slice C s.out.length c2] ∧ SdV W (fun b => b < W.heap.size) s B c1 C c2 := by
  obtain ⟨y0, y1, n, _, hlen, h0, h1⟩ := trod_struct2 Try.underlying26 h
  rw [cellsSd] at hlen
  obtain ⟨v0, v1, rfl⟩ := two_of hlen
  simp only [cellsRows, cellsIs] at h0 h1
  obtain ⟨B, c1, nx, e0, k0, r0⟩ := open_rows (m := n) (cs := [v0]) (x := y0) h0
  obtain ⟨C, c2, out, e1, k1, r1, _⟩ := open_is (m := n) (cs := [v1]) (x := y1) h1
  simp at e0 e1
  subst e0 e1
  exact ⟨⟨nx, out⟩, B, c1, C, c2, rfl, ⟨r0.sl, k0, r1, k1⟩⟩
theorem sides_cells {a : Addr} {len : Nat} (ha : ∀ i, i < len → ∃ (s : Sd) (cs : List Value), CsIsP W (fun b => b < W.heap.size) (sdC s) cs ∧ ∀ j u, cs[j]? = some u → W.cell? (a.add (i * 2 + j)) = some u) :
    ∃ (l : List Sd) (xs : List Value), l.length = len ∧ CsIsP W (fun b => b < W.heap.size) (l.flatMap sdC) xs ∧ ∀ j u, xs[j]? = some u → W.cell? (a.add j) = some u := by
  induction len with
  | zero => exact ⟨[], [], rfl, CsIsP.nil _ _, fun j u h => by simp at h⟩
  | succ len ih =>
    obtain ⟨l, xs, h1, h2, h3⟩ := ih (fun i hi => ha i (by omega))
    obtain ⟨s, cs, h4, h5⟩ := ha len (by omega)
    have hl := h2.len
    have hfl : (l.flatMap sdC).length = l.length * 2 := by
      clear h2 hl h1
      induction l with
      | nil => rfl
      | cons s l ih => rw [List.flatMap_cons, List.length_append, ih, List.length_cons, sdC_len]; omega
    rw [hfl, h1] at hl
    refine ⟨l ++ [s], xs ++ cs, by simp [h1], ?_, fun j u hj => ?_⟩
    · rw [List.flatMap_append, List.flatMap_cons, List.flatMap_nil, List.append_nil]
      exact h2.append h4
    · by_cases hlt : j < xs.length
      · rw [List.getElem?_append_left hlt] at hj; exact h3 j u hj
      · rw [List.getElem?_append_right (by omega)] at hj
        have := h5 _ u hj
        rw [show len * 2 + (j - xs.length) = j by omega] at this
        exact this
set_option maxRecDepth 100000 in
theorem open_sides {m : Nat} {cs : List Value} {x : DataW H × List MemPlace} (h : DataW.trod enc Try.prog W 0 (fun _ => true) true m 22 cs = some x) :
    ∃ (A : Option Addr) (c : Nat) (l : List Sd), cs = [.slice A l.length c] ∧ Cap l.length c ∧ SlP W (fun b => b < W.heap.size) 2 A l.length (l.flatMap sdC) := by
  rcases DataW.trod_slice Try.underlying22 h with ⟨h1, _⟩ | ⟨a, len, cap, elems, rest, n, hmn, h1, _, _, hl, hm, hel, hat, _⟩
  · exact ⟨none, 0, [], h1, ⟨Nat.le_refl _, by decide⟩, SlP.nil _ _ _ _⟩
  · rw [cellsSd] at hat
    obtain ⟨l, xs, h2, h3, h4⟩ := sides_cells (W := W) (a := a) (len := len) (fun i hi => by
      have h2 := hat i hi
      rw [List.getElem?_eq_getElem (by omega)] at h2
      obtain ⟨cs', h3, h4⟩ := Option.bind_eq_some_iff.1 h2
      obtain ⟨_, _, h5⟩ := World.cells?_some h3
      obtain ⟨s, B, c1, C, c2, rfl, hv⟩ := open_side h4
      refine ⟨s, _, CsIsP.cons (CIsP.sl hv.nx hv.le1) (CsIsP.cons (CIsP.sl hv.out hv.le2) (CsIsP.nil _ _)), fun j u hj => ?_⟩
      have hj2 : j < 2 := (List.getElem?_eq_some_iff.1 hj).1
      have := h5 j hj2
      rw [add_add, hj] at this
      exact this)
    have hfl := h3.len
    have hf2 : (l.flatMap sdC).length = l.length * 2 := by
      clear hfl h3 h2
      induction l with
      | nil => rfl
      | cons s l ih => rw [List.flatMap_cons, List.length_append, ih, List.length_cons, sdC_len]; omega
    refine ⟨some a, cap, l, by rw [h2]; exact h1, by rw [h2]; exact ⟨hl, hm⟩, ⟨xs, ⟨by rw [hfl, hf2], fun hne => ⟨a, rfl, ?_, h4⟩⟩, h3⟩⟩
    have h0 : 0 < xs.length := List.length_pos_iff.2 hne
    have := World.block_lt_of_cell? W _ (h4 0 _ (List.getElem?_eq_getElem h0))
    rwa [block_add] at this
set_option maxRecDepth 100000 in
/-- a parameter that is an automaton -/
theorem open_hedge_arg {v : Value} {d : DataW H} {p : List MemPlace} {b0 : Nat} (hv : Value.okWide Try.prog W .any b0 28 v) (h : DataW.Trod enc Try.prog W 0 (fun _ => true) true 28 v d p) :
    ∃ (g : Hd) (A B C : Option Addr) (c c1 c2 : Nat), v = hdVal g A c B c1 C c2 ∧ HdV W (fun b => b < W.heap.size) g A c B c1 C c2 := by
  obtain ⟨cs, rfl, _⟩ := okWide_struct Try.underlying28 hv
  obtain ⟨fuel, hf⟩ := h
  obtain ⟨xs, n', hnn, _, hlen, hxs, hf⟩ := DataW.trod_struct Try.underlying28 hf
  rw [cellsHd] at hlen
  obtain ⟨v0, v1, v2, v3, hcs⟩ := four_of hlen
  have hx2 : xs.length = 3 := hxs
  obtain ⟨x0, x1, x2, rfl⟩ : ∃ x0 x1 x2, xs = [x0, x1, x2] := by
    match xs, hx2 with
    | [x0, x1, x2], _ => exact ⟨x0, x1, x2, rfl⟩
  have f0 := hf 0 _ rfl
  have f1 := hf 1 _ rfl
  have f2 := hf 2 _ rfl
  rw [hcs] at f0 f1 f2
  simp only [List.getElem_toArray, List.getElem_cons_zero, List.getElem_cons_succ, cellsI, cellsSds, cellsSd] at f0 f1 f2
  obtain ⟨kd, hk, hk2, hk3⟩ := DataW.trod_int Try.underlying3 (cs := [v0]) (x := x0) f0
  obtain ⟨A, c, labs, e1, k1, r1⟩ := open_sides (m := n') (cs := [v1]) (x := x1) f1
  obtain ⟨s, B, c1, C, c2, e2, r2⟩ := open_side (m := n') (cs := [v2, v3]) (x := x2) f2
  simp at hk e1 e2
  obtain ⟨rfl, rfl⟩ := e2
  subst hk e1
  refine ⟨⟨kd, labs, s⟩, A, B, C, c, c1, c2, ?_, ⟨r1, k1, r2⟩⟩
  have hc : cs = #[.int .i64 kd, .slice A labs.length c, .slice B s.nx.length c1, .slice C s.out.length c2] := by
    apply Array.toList_inj.1
    exact hcs
  rw [hc]
end
end Go.Proofs.Ytfiojodpcpkiaaa
