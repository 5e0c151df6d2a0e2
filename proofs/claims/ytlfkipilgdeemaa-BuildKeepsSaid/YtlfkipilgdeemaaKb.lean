/- A row of bytes that the call has made itself, also one of '[]byte(s)' (of which what is frozen lies behind its end): it is written on by 'append(b, s...)'. -/
import Derived.Test.YtlfkipilgdeemaaMem
import Derived.Test.YtlfkipilgdeemaaProg
import Derived.Lib.AppendStr
import Derived.KernelRfl
namespace Go.Proofs.Ytlfkipilgdeemaa
open Go.RowKit

/-- v is an own row of the bytes l, and none of its cells is frozen -/
def ByR (w : World) (base : Nat) (v : Value) (l : List UInt8) : Prop :=
  (v = .slice none 0 0 ∧ l = []) ∨ ∃ g cap cur fz, v = .slice (some ⟨g, 0, none⟩) l.length cap ∧ base ≤ g ∧ w.heap[g]? = some (.cells cur 5 fz) ∧ (fz.2 = 0 ∨ cur.size ≤ fz.1) ∧
    l.length ≤ cap ∧ cap ≤ maxLen ∧ cur.size = cap ∧ cur.toList.take l.length = Lib.byteCells l
section
variable {w w' : World} {base : Nat} {v : Value} {l : List UInt8}
theorem ByR.nil (w : World) (base : Nat) : ByR w base (.slice none 0 0) [] := .inl ⟨rfl, rfl⟩
theorem ByR.lt (h : ByR w base v l) : ∀ q, v.ownBlock = some q → base ≤ q ∧ q < w.heap.size := by
  intro q hq
  rcases h with ⟨rfl, _⟩ | ⟨g, cap, cur, fz, rfl, hb, hg, _⟩
  · simp [Value.ownBlock] at hq
  · simp [Value.ownBlock] at hq
    subst hq
    exact ⟨hb, (Array.getElem?_eq_some_iff.1 hg).1⟩
theorem ByR.block (h : ByR w base v l) (hk : ∀ q, v.ownBlock = some q → w'.heap[q]? = w.heap[q]?) : ByR w' base v l := by
  rcases h with h0 | ⟨g, cap, cur, fz, rfl, hb, hg, rest⟩
  · exact .inl h0
  · exact .inr ⟨g, cap, cur, fz, rfl, hb, (hk g rfl).trans hg, rest⟩
theorem ByR.of_own {e : TypeId} {n : Nat} (he : e = 5) (hn : n = l.length) (h : w.ownsRow base e 1 v n (Lib.byteCells l)) : ByR w base v l := by
  subst he hn
  rcases h.2 with ⟨rfl, h0⟩ | ⟨g, cap, cur, rfl, hb, hg, hnc, hcm, hcs, ht⟩
  · exact .inl ⟨rfl, List.eq_nil_of_length_eq_zero h0⟩
  · exact .inr ⟨g, cap, cur, (0, 0), rfl, hb, hg, .inl rfl, hnc, hcm, by omega, by simpa using ht⟩
theorem ByR.shape (h : ByR w base v l) : ∃ A c, v = .slice A l.length c ∧ l.length ≤ c := by
  rcases h with ⟨rfl, rfl⟩ | ⟨g, cap, cur, fz, rfl, hb, hg, _, hc, _⟩
  · exact ⟨none, 0, rfl, Nat.le_refl _⟩
  · exact ⟨_, _, rfl, hc⟩
theorem ByR.rd {A : Option Addr} {n c : Nat} (h : ByR w base (.slice A n c) l) : Rd w w.heap.size 1 A n (Lib.byteCells l) := by
  rcases h with ⟨hv, rfl⟩ | ⟨g, cap, cur, fz, hv, hb, hg, _, hc, _, hcs, ht⟩
  · injection hv with h1 h2 h3
    subst h1 h2
    exact Rd.nil _ _ _ _
  · injection hv with h1 h2 h3
    subst h1 h2
    refine ⟨by rw [Lib.byteCells_length, Nat.mul_one], fun _ => ⟨_, rfl, (Array.getElem?_eq_some_iff.1 hg).1, fun j u hu => ?_⟩⟩
    rw [show (⟨g, 0, none⟩ : Addr).add j = ⟨g, j, none⟩ by unfold Addr.add; split <;> simp_all, cell_of_row w g j cur _ fz hg]
    rw [← ht, List.getElem?_take] at hu
    split at hu
    · simpa using hu
    · cases hu
/-- what '[]byte(s)' lays -/
theorem ByR.made (w : World) (hb : base ≤ w.heap.size) (l : List UInt8) (hl : l.length ≤ maxLen) (k : Nat) (hk : k = (bytesRow ⟨l.toArray⟩ (grownCap w l.length 0 5)).size) :
    ByR (w.drew.alloc (.cells (bytesRow ⟨l.toArray⟩ (grownCap w l.length 0 5)) 5 (k, k + 1))) base (.slice (some ⟨w.heap.size, 0, none⟩) l.length (grownCap w l.length 0 5)) l := by
  have hge := grownCap_ge w l.length 0 5
  refine .inr ⟨w.heap.size, _, _, _, rfl, hb, heap_alloc_new w.drew _, .inr (by rw [hk]; exact Nat.le_refl _), hge, grownCap_le_maxLen _ _ _ _ hl, ?_, ?_⟩
  · have hs : (⟨l.toArray⟩ : ByteArray).size = l.length := rfl
    simp only [bytesRow, Array.size_append, Array.size_map, Array.size_replicate, hs, List.size_toArray]
    omega
  · simp only [bytesRow, Array.toList_append, Array.toList_map]
    rw [List.take_left' (by simp)]
    rfl
end

section
variable {P : Program}
/-- cells are stored into a row none of whose cells is frozen -/
theorem store_free (g o : Nat) (t : TypeId) (fz : Nat × Nat) : ∀ (vs : List Value) (i : Nat) (cur : Array Value) (w : World), w.heap[g]? = some (.cells cur t fz) → (fz.2 = 0 ∨ cur.size ≤ fz.1) → o + i + vs.length ≤ cur.size → (∀ v ∈ vs, v.oneCell' = true) →
    (storeCells ⟨g, o, none⟩ vs i).run P w = .ok () (w.setRow g (cur.toList.take (o + i) ++ vs ++ cur.toList.drop (o + i + vs.length)).toArray)
  | [], i, cur, w, hg, _, _, _ => by
    simp only [storeCells, List.append_nil, List.length_nil, Nat.add_zero, List.take_append_drop, Array.toArray_toList]
    rw [setRow_self w g cur t fz hg]
    rfl
  | v :: rest, i, cur, w, hg, hf, hl, h1 => by
    rw [List.length_cons] at hl
    have hlt : o + i < cur.size := by omega
    have ha : (⟨g, o, none⟩ : Addr).add i = ⟨g, o + i, none⟩ := by unfold Addr.add; split <;> simp_all
    have hc : w.cell? ⟨g, o + i, none⟩ = some cur[o + i] := by simp [World.cell?, hg, hlt]
    have hz : w.frozen? ⟨g, o + i, none⟩ = false := by
      obtain ⟨p, q⟩ := fz
      simp only [World.frozen?, hg, Bool.and_eq_false_iff, decide_eq_false_iff_not]
      simp only at hf
      omega
    have hs : (store ((⟨g, o, none⟩ : Addr).add i) v).run P w = .ok () (w.setRow g (cur.setIfInBounds (o + i) v)) := by
      rw [ha, run_store P w _ v _ (h1 v (by simp)), hc]
      simp [hz, setCell_eq_setRow w g (o + i) cur t fz v hg]
    have ih := store_free g o t fz rest (i + 1) (cur.setIfInBounds (o + i) v) (w.setRow g (cur.setIfInBounds (o + i) v)) (setRow_heap w g cur _ t _ hg) (by simpa using hf) (by simp; omega) (fun x hx => h1 x (by simp [hx]))
    simp only [storeCells, Sem.run_bind, hs, Result.andThen_ok, ih, setRow_setRow]
    congr 3
    have e := list_seg_step cur.toList (o + i) v rest (by simp; omega)
    simpa [Array.toList_setIfInBounds, Nat.add_assoc] using e

theorem strCells_mk (x : List UInt8) : Lib.strCells ⟨x.toArray⟩ = Lib.byteCells x := rfl
theorem info_u8 : (Try.prog.info? 5).map (fun i => (i.zero, i.size, i.bytes)) = some (some (.int .u8 0), 1, 1) := by kernel_rfl
/-- 'append(b, s...)' -/
theorem run_byte_app {w : World} {base : Nat} {v : Value} {l : List UInt8} (h : ByR w base v l) (x : List UInt8) (ty : TypeId) (hx : l.length + x.length ≤ 1000000000) (hbase : base ≤ w.heap.size) :
    ∃ v' w', (Builtin.append_ #[55, 9] ty #[v, .string ⟨x.toArray⟩]).run Try.prog w = .ok v' w' ∧ ByR w' base v' (l ++ x) ∧ w.grownBy w' v.ownBlock ∧ (∀ q, v'.ownBlock = some q → v.ownBlock = some q ∨ w.heap.size ≤ q) := by
  obtain ⟨i, hi, hz, hsize, hby⟩ := info_parts info_u8
  have hs : (⟨x.toArray⟩ : ByteArray).size = x.length := rfl
  have hm : (maxLen : Nat) = 9223372036854775807 ∨ 1000000000 ≤ maxLen := .inr (by unfold maxLen; omega)
  have hml : 1000000000 ≤ maxLen := by unfold maxLen; omega
  rcases h with ⟨rfl, rfl⟩ | ⟨g, cap, cur, fz, rfl, hb, hg, hf, hc, hcm, hcs, ht⟩
  · simp only [List.length_nil, Nat.zero_add] at hx
    by_cases h0 : x.length = 0
    · obtain rfl : x = [] := List.eq_nil_of_length_eq_zero h0
      obtain ⟨v', w', h1, h2, h3, h4⟩ := Lib.run_append_own_string (P := Try.prog) w base 55 9 ty 5 i Try.underlying55 Try.underlying9 hi hz hsize hby (.slice none 0 0) 0 [] (World.ownsRow_nil _ _ _ _) ⟨#[]⟩ (by simp [maxLen]; decide) (by decide) hbase
      have hv : v' = .slice none 0 0 := h4.2 ⟨rfl, rfl⟩
      subst hv
      exact ⟨_, w', h1, ByR.nil _ _, h3, fun q hq => by simp [Value.ownBlock] at hq⟩
    · have hr := run_append_nil_string (P := Try.prog) w 55 9 ty 5 i (.int .u8 0) Try.underlying55 Try.underlying9 hi hz ⟨x.toArray⟩ (by omega) (by omega) (by rw [hby, hs]; omega)
      obtain ⟨v', w', h1, h2, h3, h4⟩ := Lib.run_append_own_string (P := Try.prog) w base 55 9 ty 5 i Try.underlying55 Try.underlying9 hi hz hsize hby (.slice none 0 0) 0 [] (World.ownsRow_nil _ _ _ _) ⟨x.toArray⟩ (by omega) (by omega) hbase
      rw [hr] at h1
      injection h1 with h5 h6
      subst h5 h6
      have hb2 := ByR.of_own (e := 5) (l := x) (n := 0 + (⟨x.toArray⟩ : ByteArray).size) rfl (by rw [hs, Nat.zero_add]) (by rw [← strCells_mk]; exact h2)
      refine ⟨_, _, hr, hb2, h3, fun q hq => .inr ?_⟩
      simp [Value.ownBlock] at hq
      omega
  · by_cases hroom : l.length + x.length ≤ cap
    · have hf2 := Lib.run_firstCells_string (P := Try.prog) w 1 ⟨x.toArray⟩
      have hst := store_free (P := Try.prog) g l.length 5 fz (Lib.strCells ⟨x.toArray⟩) 0 cur w hg hf (by rw [Lib.strCells_length, hs]; omega) (Lib.strCells_oneCell _)
      simp only [Nat.add_zero, Lib.strCells_length, hs] at hst hf2
      have hr : (Builtin.append_ #[55, 9] ty #[.slice (some ⟨g, 0, none⟩) l.length cap, .string ⟨x.toArray⟩]).run Try.prog w = .ok (.slice (some ⟨g, 0, none⟩) (l.length + x.length) cap) (w.setRow g (cur.toList.take l.length ++ Lib.strCells ⟨x.toArray⟩ ++ cur.toList.drop (l.length + x.length)).toArray) := by
        simp [Builtin.append_, run_underlying Try.underlying55, run_underlying Try.underlying9, sizeOf, typeInfo, hi, hsize, Builtin.lenOf, hs, hroom, hf2, Addr.add_lit, hst]
      refine ⟨_, _, hr, .inr ⟨g, cap, _, fz, by simp, hb, setRow_heap w g cur _ _ _ hg, ?_, by simpa using hroom, hcm, ?_, ?_⟩, ⟨rfl, rfl, rfl, by simp, fun k _ hk => setRow_other w g k _ (fun e => hk (by simp [Value.ownBlock, e]))⟩, fun q hq => .inl (by simpa [Value.ownBlock] using hq)⟩
      · rcases hf with hf | hf
        · exact .inl hf
        · refine .inr ?_
          simp only [List.size_toArray, List.length_append, List.length_take, List.length_drop, Array.length_toList, Lib.strCells_length, hs]
          omega
      · simp only [List.size_toArray, List.length_append, List.length_take, List.length_drop, Array.length_toList, Lib.strCells_length, hs]
        omega
      · rw [ht, strCells_mk]
        simp only [List.length_append]
        rw [List.take_left' (by simp [Lib.byteCells])]
        simp [Lib.byteCells]
    · have holds : ∀ j u, (Lib.byteCells l)[j]? = some u → w.cell? ((⟨g, 0, none⟩ : Addr).add j) = some u := by
        have := (ByR.rd (A := some ⟨g, 0, none⟩) (n := l.length) (c := cap) (.inr ⟨g, cap, cur, fz, rfl, hb, hg, hf, hc, hcm, hcs, ht⟩)).2
        intro j u hu
        obtain ⟨a, e, _, hcell⟩ := this (by intro e; rw [e] at hu; simp at hu)
        injection e with e
        subst e
        exact hcell j u hu
      have hr := Lib.run_append_grow_string (P := Try.prog) w 55 9 ty 5 i (.int .u8 0) Try.underlying55 Try.underlying9 hi hz ⟨g, 0, none⟩ l.length cap (Lib.byteCells l) (by rw [hsize, Lib.byteCells_length]; simp) holds ⟨x.toArray⟩ (by omega) (by omega) (by rw [hby]; exact growslice_fits (by omega) (by omega))
      have hge := grownCap_ge w (l.length + x.length) cap 5
      rw [hs] at hr
      refine ⟨_, _, hr, .inr ⟨w.heap.size, _, _, (0, 0), by rw [List.length_append], hbase, heap_alloc_new w.drew _, .inl rfl, by simpa using hge, grownCap_le_maxLen _ _ _ _ (by omega), ?_, ?_⟩, ⟨rfl, rfl, rfl, by simp, fun k hk _ => Below.heap_alloc w.drew _ k hk⟩, fun q hq => .inr ?_⟩
      · have hz1 : (Value.int IntKind.u8 0).cells.size = 1 := rfl
        simp only [Array.size_append, List.size_toArray, size_zeroCells, hz1, Lib.byteCells_length, Lib.strCells_length, hs]
        omega
      · simp only [Array.toList_append, List.append_assoc, strCells_mk]
        rw [← List.append_assoc, List.length_append, List.take_left' (by simp [Lib.byteCells])]
        simp [Lib.byteCells]
      · simp [Value.ownBlock] at hq
        omega
/-- .. at a step of a region that draws its order -/
theorem step_byte_app {w : World} {ops : Array Oper} {o : Oper} {a : Act} {K : Act → World → Prop} {Q : Exit → Act → World → Prop} {E : Prop} (hgd : o.guard = none) (s y : Operand) (ho : o.op = .call { callee := .builtin .append, args := #[s, y], argTypes := #[55, 9] })
    {base : Nat} {v : Value} {l : List UInt8} (hs : a.eval s = v) (h : ByR w base v l) (x : List UInt8) (hy : a.eval y = .string ⟨x.toArray⟩) (hx : l.length + x.length ≤ 1000000000) (hbase : base ≤ w.heap.size)
    (hK : ∀ A' c' w', ByR w' base (.slice A' (l.length + x.length) c') (l ++ x) → w.grownBy w' v.ownBlock → (∀ q, (Value.slice A' (l.length + x.length) c').ownBlock = some q → v.ownBlock = some q ∨ w.heap.size ≤ q) → K (a.put o.dst (.slice A' (l.length + x.length) c')) w') :
    if Region.wanted o (yielded ops a.tmps) = true then Oper.wp Try.prog o a w K Q else E := by
  have hw : Region.wanted o (yielded ops a.tmps) = true := by simp [Region.wanted, hgd]
  rw [if_pos hw]
  obtain ⟨v', w', hr, h2, h3, h4⟩ := run_byte_app h x o.type hx hbase
  unfold Oper.wp execOp
  simp only [ho, resolve, invoke, builtin, Sem.run_bind, Sem.run_pure, Result.andThen_ok, List.map_toArray, List.map_cons, List.map_nil, hs, hy, hr]
  obtain ⟨A', c', rfl, _⟩ := h2.shape
  rw [List.length_append] at h2 h4 ⊢
  exact hK A' c' w' h2 h3 h4
end
end Go.Proofs.Ytlfkipilgdeemaa
