/- Opening a law's arguments: lists of nodes. -/
import Derived.Test.YtlfkipilgdeemaaOpen
import Derived.Test.YtlfkipilgdeemaaNd
import Derived.Test.YtlfkipilgdeemaaProg
import Derived.KernelRfl
namespace Go.Proofs.Ytlfkipilgdeemaa
open Go.ChangeShapes Go.WideShapes Go.ChangeAt Go.RowKit

theorem cellsNode : Try.prog.cellsOf 33 = 5 := by kernel_rfl
theorem cellsAttr : Try.prog.cellsOf 35 = 2 := by kernel_rfl
theorem cellsInt : Try.prog.cellsOf 3 = 1 := by kernel_rfl
theorem cellsStr : Try.prog.cellsOf 9 = 1 := by kernel_rfl
theorem cellsAttrs : Try.prog.cellsOf 27 = 1 := by kernel_rfl
theorem cellsNodes : Try.prog.cellsOf 30 = 1 := by kernel_rfl

section
variable {H : Type} {enc : TypeId × Value → H} {W : World} {sp : Nat → Bool} {held : Bool}

/-- a list of things out of what is known of each place -/
theorem list_of {α : Type} {p : Nat → α → Prop} : ∀ (n : Nat), (∀ i, i < n → ∃ v, p i v) → ∃ l : List α, l.length = n ∧ ∀ i (h : i < l.length), p i l[i]
  | 0, _ => ⟨[], rfl, fun i h => absurd h (by simp)⟩
  | n + 1, h => by
    obtain ⟨l, hl, hp⟩ := list_of n (fun i hi => h i (by omega))
    obtain ⟨v, hv⟩ := h n (by omega)
    refine ⟨l ++ [v], by simp [hl], fun i hi => ?_⟩
    by_cases h2 : i < l.length
    · rw [List.getElem_append_left h2]; exact hp i h2
    · have h3 : i = n := by simp at hi; omega
      subst h3
      rw [List.getElem_append_right (by omega)]
      simpa using hv

theorem open_str {m : Nat} {v : Value} {x : DataW H × List MemPlace} (h : DataW.trod enc Try.prog W 0 sp held m 9 [v] = some x) : ∃ l : List UInt8, v = sv l := by
  obtain ⟨s, h1, _, _⟩ := DataW.trod_string Try.underlying9 h
  simp at h1
  exact ⟨s.data.toList, by rw [h1, (IsStr.of s).to]; rfl⟩

/-- five cells -/
theorem five {cs : List Value} (h : cs.length = 5) : ∃ a b c d e, cs = [a, b, c, d, e] := by
  match cs, h with
  | [a, b, c, d, e], _ => exact ⟨a, b, c, d, e, rfl⟩
theorem two {cs : List Value} (h : cs.length = 2) : ∃ a b, cs = [a, b] := by
  match cs, h with
  | [a, b], _ => exact ⟨a, b, rfl⟩

set_option maxRecDepth 100000 in
theorem open_attr {m : Nat} {cs : List Value} {x : DataW H × List MemPlace} (h : DataW.trod enc Try.prog W 0 sp held m 35 cs = some x) : ∃ a : Atr, cs = [sv a.1, sv a.2] := by
  obtain ⟨xs, n, _, _, hlen, hxs, hf⟩ := DataW.trod_struct Try.underlying35 h
  rw [cellsAttr] at hlen
  obtain ⟨a, b, rfl⟩ := two hlen
  have f0 := hf 0 _ rfl
  have f1 := hf 1 _ rfl
  simp only [List.getElem_toArray, List.getElem_cons_zero, List.getElem_cons_succ, cellsStr] at f0 f1
  have hx2 : xs.length = 2 := hxs
  obtain ⟨x0, x1, rfl⟩ : ∃ x0 x1, xs = [x0, x1] := by
    match xs, hx2 with
    | [x0, x1], _ => exact ⟨x0, x1, rfl⟩
  obtain ⟨l0, rfl⟩ := open_str (m := n) (v := a) (x := x0) f0
  obtain ⟨l1, rfl⟩ := open_str (m := n) (v := b) (x := x1) f1
  exact ⟨(l0, l1), rfl⟩

theorem open_attrs {m : Nat} {v : Value} {x : DataW H × List MemPlace} (h : DataW.trod enc Try.prog W 0 sp held m 27 [v] = some x) : ∃ A n c l, v = .slice A n c ∧ n ≤ c ∧ c ≤ maxLen ∧ Atrs W W.heap.size A n l := by
  rcases DataW.trod_slice Try.underlying27 h with ⟨h1, _⟩ | ⟨a, len, cap, elems, rest, n, _, h1, _, _, hl, hm, hel, hat, _⟩
  · simp at h1
    exact ⟨none, 0, 0, [], h1, Nat.le_refl _, Nat.zero_le _, Rd.nil _ _ _ _⟩
  · simp at h1
    rw [cellsAttr] at hat
    obtain ⟨l, hll, hlp⟩ := list_of (α := Atr) (p := fun i b => W.cell? (a.add (i * 2)) = some (sv b.1) ∧ W.cell? (a.add (i * 2 + 1)) = some (sv b.2)) len (fun i hi => by
      have h2 := hat i hi
      rw [List.getElem?_eq_getElem (by omega)] at h2
      obtain ⟨cs, h3, h4⟩ := Option.bind_eq_some_iff.1 h2
      obtain ⟨b, rfl⟩ := open_attr h4
      obtain ⟨_, _, h5⟩ := World.cells?_some h3
      refine ⟨b, ?_, ?_⟩
      · have := h5 0 (by omega); rw [add_add] at this; simpa using this
      · have := h5 1 (by omega); rw [add_add] at this; simpa using this)
    refine ⟨some a, len, cap, l, h1, hl, hm, ?_⟩
    refine ⟨by rw [atrCells_length, hll], fun hne => ⟨a, rfl, ?_, fun j u hj => ?_⟩⟩
    · have h0 : 0 < l.length := by
        cases l with
        | nil => simp [atrCells] at hne
        | cons => simp
      have := World.block_lt_of_cell? W _ (hlp 0 h0).1
      rwa [block_add] at this
    · have hj2 : j < l.length * 2 := by
        have := (List.getElem?_eq_some_iff.1 hj).1
        rwa [atrCells_length] at this
      have hk : j / 2 < l.length := by omega
      obtain ⟨e1, e2⟩ := atrCells_at hk
      obtain ⟨g1, g2⟩ := hlp (j / 2) hk
      rcases Nat.mod_two_eq_zero_or_one j with h0 | h0
      · rw [show j = j / 2 * 2 by omega] at hj ⊢
        rw [e1] at hj
        rw [g1, hj]
      · rw [show j = j / 2 * 2 + 1 by omega] at hj ⊢
        rw [e2] at hj
        rw [g2, hj]

/-- the cells of nodes, a node at a time -/
theorem nodes_cells {a : Addr} {len : Nat} (ha : ∀ i, i < len → ∃ (n : Nd) (cs : List Value), NIs W W.heap.size n cs ∧ ∀ j u, cs[j]? = some u → W.cell? (a.add (i * 5 + j)) = some u) :
    ∃ l xs, l.length = len ∧ NsIs W W.heap.size l xs ∧ ∀ j u, xs[j]? = some u → W.cell? (a.add j) = some u := by
  induction len with
  | zero => exact ⟨[], [], rfl, NsIsP.nil _ _, fun j u h => by simp at h⟩
  | succ len ih =>
    obtain ⟨l, xs, h1, h2, h3⟩ := ih (fun i hi => ha i (by omega))
    obtain ⟨n, cs, h4, h5⟩ := ha len (by omega)
    refine ⟨l ++ [n], xs ++ cs, by simp [h1], h2.append (NsIs.single h4), fun j u hj => ?_⟩
    have hl := h2.len
    by_cases hlt : j < xs.length
    · rw [List.getElem?_append_left hlt] at hj; exact h3 j u hj
    · rw [List.getElem?_append_right (by omega)] at hj
      have := h5 _ u hj
      rw [show len * 5 + (j - xs.length) = j by omega] at this
      exact this

set_option maxRecDepth 100000 in
theorem open_nodes : ∀ (m : Nat) {v : Value} {x : DataW H × List MemPlace}, DataW.trod enc Try.prog W 0 sp held m 30 [v] = some x → ∃ A n c l, v = .slice A n c ∧ n ≤ c ∧ c ≤ maxLen ∧ Nodes W W.heap.size A n l := by
  intro m
  induction m using Nat.strongRecOn with
  | _ m ih =>
    intro v x h
    rcases DataW.trod_slice Try.underlying30 h with ⟨h1, _⟩ | ⟨a, len, cap, elems, rest, n, hmn, h1, _, _, hl, hm, hel, hat, _⟩
    · simp at h1
      exact ⟨none, 0, 0, [], h1, Nat.le_refl _, Nat.zero_le _, Nodes.nil _ _ _⟩
    · simp at h1
      rw [cellsNode] at hat
      obtain ⟨l, xs, h2, h3, h4⟩ := nodes_cells (W := W) (a := a) (len := len) (fun i hi => by
        have h2 := hat i hi
        rw [List.getElem?_eq_getElem (by omega)] at h2
        obtain ⟨cs, h3, h4⟩ := Option.bind_eq_some_iff.1 h2
        obtain ⟨xs, n', hnn, _, hlen, hxs, hf⟩ := DataW.trod_struct Try.underlying33 h4
        obtain ⟨_, _, h5⟩ := World.cells?_some h3
        rw [cellsNode] at hlen
        obtain ⟨v0, v1, v2, v3, v4, rfl⟩ := five hlen
        have hx2 : xs.length = 5 := hxs
        obtain ⟨x0, x1, x2, x3, x4, rfl⟩ : ∃ x0 x1 x2 x3 x4, xs = [x0, x1, x2, x3, x4] := by
          match xs, hx2 with
          | [x0, x1, x2, x3, x4], _ => exact ⟨x0, x1, x2, x3, x4, rfl⟩
        have f0 := hf 0 _ rfl
        have f1 := hf 1 _ rfl
        have f2 := hf 2 _ rfl
        have f3 := hf 3 _ rfl
        have f4 := hf 4 _ rfl
        simp only [List.getElem_toArray, List.getElem_cons_zero, List.getElem_cons_succ, cellsStr, cellsInt, cellsAttrs, cellsNodes] at f0 f1 f2 f3 f4
        obtain ⟨kd, hk, _, _⟩ := DataW.trod_int Try.underlying3 (cs := [v0]) (x := x0) f0
        simp at hk
        subst hk
        obtain ⟨nm, rfl⟩ := open_str (m := n') (v := v1) (x := x1) f1
        obtain ⟨A1, n1, c1, ats, rfl, ha1, _, ha2⟩ := open_attrs (m := n') (v := v2) (x := x2) f2
        obtain ⟨tx, rfl⟩ := open_str (m := n') (v := v3) (x := x3) f3
        obtain ⟨A2, n2, c2, kids, rfl, hk1, _, hk2⟩ := ih n' (by omega) (v := v4) (x := x4) f4
        refine ⟨.mk kd nm ats tx kids, _, NIs.mk' ha1 ha2 hk1 hk2, fun j u hj => ?_⟩
        have hj5 : j < 5 := (List.getElem?_eq_some_iff.1 hj).1
        have := h5 j hj5
        rw [add_add, hj] at this
        exact this)
      refine ⟨some a, len, cap, l, h1, hl, hm, xs, ⟨by rw [h3.len, h2], fun hne => ⟨a, rfl, ?_, h4⟩⟩, h3⟩
      have h0 : 0 < xs.length := List.length_pos_iff.2 hne
      have := World.block_lt_of_cell? W _ (h4 0 _ (List.getElem?_eq_getElem h0))
      rwa [block_add] at this

set_option maxRecDepth 100000 in
/-- a parameter that is a list of nodes -/
theorem open_nodes_arg {v : Value} {d : DataW H} {p : List MemPlace} {b0 : Nat} (hv : Value.okWide Try.prog W .any b0 30 v) (h : DataW.Trod enc Try.prog W 0 (fun _ => true) true 30 v d p) :
    ∃ A n c l, v = .slice A n c ∧ n ≤ c ∧ c ≤ maxLen ∧ Nodes W W.heap.size A n l := by
  obtain ⟨A, n, c, rfl⟩ := okWide_slice Try.underlying30 hv
  obtain ⟨fuel, hf⟩ := h
  obtain ⟨A', n', c', l, h1, h2, h3, h4⟩ := open_nodes fuel (v := .slice A n c) (by simpa [Value.cells] using hf)
  exact ⟨A', n', c', l, h1, h2, h3, h4⟩
end
end Go.Proofs.Ytlfkipilgdeemaa
