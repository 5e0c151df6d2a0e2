/- The finder in memory: what becomes of it by a mark, a state that is met, a tree's state that is found. -/
import Derived.Test.YtbipdnnalhdoaaaHi
namespace Go.Proofs.Ytbipdnnalhdoaaa
open Go.RowKit Go.Maps Go.WideMaps

section
variable {W W3 W4 : World} {own : FOwn} {base fb mm mf : Nat} {mv : Value} {f : FS}
theorem FIs.ne (h : FIs W own base fb mm mf mv f) : fb ≠ mm ∧ fb ≠ mf ∧ mm ≠ mf := by
  refine ⟨fun e => ?_, fun e => ?_, fun e => ?_⟩
  · have := h.fin; rw [e, h.mkm] at this; injection this with this; cases this
  · have := h.fin; rw [e, h.fnm] at this; injection this with this; cases this
  · have := h.mkm; rw [e, h.fnm] at this; injection this with this; cases this
/-- the finder's blocks are the same but for the map mm -/
theorem FIs.marked (h : FIs W own base fb mm mf mv f) {n : Nat} {mar' : Nat → Nat → Option (Stp × Bool)} (hm : MapIs Try.prog 70 W3 mm n (mkF mar')) (hg : W.grownBy W3 (some mm)) :
    FIs W3 own base fb mm mf mv { f with mar := mar' } ∧ FStep W W3 own own := by
  have hne : ∀ q r, own q = some r → r ≠ .mkm → W3.heap[q]? = W.heap[q]? := fun q r hq hr => hg.block q (h.lt q r hq).2 fun e => by
    injection e with e
    rw [e, h.mkm] at hq
    injection hq with hq
    exact hr hq.symm
  obtain ⟨h1, h2, h3, h4, ⟨A, c, AM, cM, AT, cT, MV, b1, ⟨b2, b3⟩, ⟨b4, b5⟩, b6, ⟨b7, b8⟩⟩, _, ⟨n', h7⟩⟩ := h
  refine ⟨⟨fun q r hq => ⟨(h1 q r hq).1, Nat.lt_of_lt_of_le (h1 q r hq).2 hg.size⟩, h2, h3, h4, ⟨A, c, AM, cM, AT, cT, MV, (hne fb _ h2 (by simp)).trans b1, ⟨fown_block b2 fun q hq => hne q _ (b3 q hq) (by simp), b3⟩, ⟨fown_block b4 fun q hq => hne q _ (b5 q hq) (by simp), b5⟩, fun i hi => ?_, ⟨fown_block b7 fun q hq => hne q _ (b8 q hq) (by simp), b8⟩⟩, ⟨n, hm⟩, ⟨n', h7.block (hne mf _ h4 (by simp))⟩⟩,
    ⟨hg.os, hg.tape, hg.output, hg.size, fun k hk hn => hg.block k hk fun e => hn (by injection e with e; rw [e, h3]; simp)⟩, fun _ _ h => h, fun _ _ h => .inl h⟩
  obtain ⟨A', c', e1, e2, e3⟩ := b6 i hi
  exact ⟨A', c', e1, fown_block e2 fun q hq => hne q _ (e3 q hq) (by simp), e3⟩
/-- .. but for the map mf -/
theorem FIs.founded (h : FIs W own base fb mm mf mv f) {n : Nat} {fnd' : Nat → Option Src} (hm : MapIs Try.prog 3 W3 mf n (fnF fnd')) (hg : W.grownBy W3 (some mf)) :
    FIs W3 own base fb mm mf mv { f with fnd := fnd' } ∧ FStep W W3 own own := by
  have hne : ∀ q r, own q = some r → r ≠ .fnm → W3.heap[q]? = W.heap[q]? := fun q r hq hr => hg.block q (h.lt q r hq).2 fun e => by
    injection e with e
    rw [e, h.fnm] at hq
    injection hq with hq
    exact hr hq.symm
  obtain ⟨h1, h2, h3, h4, ⟨A, c, AM, cM, AT, cT, MV, b1, ⟨b2, b3⟩, ⟨b4, b5⟩, b6, ⟨b7, b8⟩⟩, ⟨n', h7⟩, _⟩ := h
  refine ⟨⟨fun q r hq => ⟨(h1 q r hq).1, Nat.lt_of_lt_of_le (h1 q r hq).2 hg.size⟩, h2, h3, h4, ⟨A, c, AM, cM, AT, cT, MV, (hne fb _ h2 (by simp)).trans b1, ⟨fown_block b2 fun q hq => hne q _ (b3 q hq) (by simp), b3⟩, ⟨fown_block b4 fun q hq => hne q _ (b5 q hq) (by simp), b5⟩, fun i hi => ?_, ⟨fown_block b7 fun q hq => hne q _ (b8 q hq) (by simp), b8⟩⟩, ⟨n', h7.block (hne mm _ h3 (by simp))⟩, ⟨n, hm⟩⟩,
    ⟨hg.os, hg.tape, hg.output, hg.size, fun k hk hn => hg.block k hk fun e => hn (by injection e with e; rw [e, h4]; simp)⟩, fun _ _ h => h, fun _ _ h => .inl h⟩
  obtain ⟨A', c', e1, e2, e3⟩ := b6 i hi
  exact ⟨A', c', e1, fown_block e2 fun q hq => hne q _ (e3 q hq) (by simp), e3⟩
/-- a row of the finder's own grows, and its slice is stored -/
theorem FOwn.grow (h : FIs W own base fb mm mf mv f) {V V' : Value} {r : FR} (hV : ∀ q, V.ownBlock = some q → own q = some r) (hat : ∀ q, V'.ownBlock = some q → V.ownBlock = some q ∨ W.heap.size ≤ q) :
    (∀ q, V'.ownBlock = some q → own.put V' r q = some r) ∧ (∀ q x, own.put V' r q = some x → own q = some x ∨ (W.heap.size ≤ q ∧ V'.ownBlock = some q)) := by
  refine ⟨fun q hq => FOwn.put_is hq ?_, fun q x hx => ?_⟩
  · rcases hat q hq with h9 | h9
    · exact .inr (hV q h9)
    · left
      cases ho : own q with
      | none => rfl
      | some x => have := (h.lt q x ho).2; omega
  · rcases FOwn.put_inv hx with h9 | ⟨h9, rfl⟩
    · exact .inl h9
    · rcases hat q h9 with h8 | h8
      · exact .inl (hV q h8)
      · exact .inr ⟨h8, h9⟩
/-- a tree's state more -/
theorem FIs.treed (h : FIs W own base fb mm mf mv f) {A AM AT AT' : Option Addr} {c cM cT cT' v : Nat}
    (b1 : W.heap[fb]? = some (.cells (finC mv A f.q.length c mm AM f.met.length cM AT f.trees.length cT mf) 85 (0, 0)))
    (hr : W3.ownsRow base 3 1 (.slice AT' (f.trees.length + 1) cT') (f.trees.length + 1) (nats f.trees ++ [.int .i64 (v : Int)])) (hg : W.grownBy W3 (Value.slice AT f.trees.length cT).ownBlock) (hat : ∀ q, (Value.slice AT' (f.trees.length + 1) cT').ownBlock = some q → (Value.slice AT f.trees.length cT).ownBlock = some q ∨ W.heap.size ≤ q) :
    ∃ own', FIs (W3.setCell ⟨fb, 4, none⟩ (.slice AT' (f.trees.length + 1) cT')) own' base fb mm mf mv { f with trees := f.trees ++ [v] } ∧ FStep W (W3.setCell ⟨fb, 4, none⟩ (.slice AT' (f.trees.length + 1) cT')) own own' := by
  have h0 := h
  obtain ⟨h1, h2, h3, h4, ⟨A0, c0, AM0, cM0, AT0, cT0, MV, e1, ⟨e2, e3⟩, ⟨e4, e5⟩, e6, ⟨e7, e8⟩⟩, ⟨n, h6⟩, ⟨n', h7⟩⟩ := h
  rw [b1] at e1
  simp only [finC, Option.some.injEq, Obj.cells.injEq, Array.mk.injEq, List.cons.injEq, Value.slice.injEq, and_true, true_and] at e1
  obtain ⟨⟨rfl, rfl⟩, ⟨rfl, rfl⟩, rfl, rfl⟩ := e1
  obtain ⟨p1, p2⟩ := FOwn.grow h0 (V := .slice AT f.trees.length cT) (V' := .slice AT' (f.trees.length + 1) cT') e8 hat
  have hle : ∀ q x, own q = some x → own.put (.slice AT' (f.trees.length + 1) cT') .tre q = some x := fun q x hq => FOwn.put_le _ _ _ _ _ hq
  have hne : ∀ q r, own q = some r → r ≠ .tre → q ≠ fb → (W3.setCell ⟨fb, 4, none⟩ (.slice AT' (f.trees.length + 1) cT')).heap[q]? = W.heap[q]? := fun q r hq hr hf => by
    rw [heap_set_other (p := ⟨fb, 4, none⟩) hf]
    refine hg.block q (h1 q r hq).2 fun e => ?_
    have := e8 q e.symm
    rw [hq] at this
    injection this with this
    exact hr this
  have hfb3 : W3.heap[fb]? = W.heap[fb]? := hg.block fb (h1 fb _ h2).2 fun e => by
    have := e8 fb e.symm
    rw [h2] at this
    injection this with this
    cases this
  have hnf : ∀ q r, own q = some r → r ≠ .fin → q ≠ fb := fun q r hq hr e => by
    rw [e, h2] at hq
    injection hq with hq
    exact hr hq.symm
  have hll : (f.trees ++ [v]).length = f.trees.length + 1 := by simp
  have hnf' : (Value.slice AT' (f.trees.length + 1) cT').ownBlock ≠ some fb := fun e => by
    have := p1 fb e
    rw [hle fb _ h2] at this
    injection this with this
    cases this
  refine ⟨own.put (.slice AT' (f.trees.length + 1) cT') .tre, ⟨fun q r hq => ?_, hle _ _ h2, hle _ _ h3, hle _ _ h4, ⟨A, c, AM, cM, AT', cT', MV, ?_, ⟨fown_block e2 fun q hq => hne q _ (e3 q hq) (by simp) (hnf q _ (e3 q hq) (by simp)), fun q hq => hle _ _ (e3 q hq)⟩,
    ⟨fown_block e4 fun q hq => hne q _ (e5 q hq) (by simp) (hnf q _ (e5 q hq) (by simp)), fun q hq => hle _ _ (e5 q hq)⟩, fun i hi => ?_, ?_⟩, ⟨n, h6.block (hne mm _ h3 (by simp) (hnf mm _ h3 (by simp)))⟩, ⟨n', h7.block (hne mf _ h4 (by simp) (hnf mf _ h4 (by simp)))⟩⟩, ⟨?_, hle, fun q r hq => (p2 q r hq).imp id (·.1)⟩⟩
  · rw [size_set]
    rcases p2 q r hq with h9 | ⟨h9, h10⟩
    · have := h1 q r h9
      have := hg.size
      omega
    · exact hr.lt q h10
  · have := heap_setCell_same W3 fb 4 _ _ (.slice AT' (f.trees.length + 1) cT') (hfb3.trans b1)
    rw [this]
    simp [finC]
  · obtain ⟨A9, c9, e10, e11, e12⟩ := e6 i hi
    exact ⟨A9, c9, e10, fown_block e11 fun q hq => hne q _ (e12 q hq) (by simp) (hnf q _ (e12 q hq) (by simp)), fun q hq => hle _ _ (e12 q hq)⟩
  · show (W3.setCell _ _).ownsRow base _ 1 (.slice AT' (f.trees ++ [v]).length cT') (f.trees ++ [v]).length (nats (f.trees ++ [v])) ∧ ∀ q, (Value.slice AT' (f.trees ++ [v]).length cT').ownBlock = some q → _
    rw [hll, nats_append]
    exact ⟨ownsRow_setCell_other hr hnf' _, p1⟩
  · refine Kb.set (w := W) (w' := W3) (S := fun k => own k ≠ none) ⟨hg.os, hg.tape, hg.output, hg.size, fun k hk hn => hg.block k hk fun e => hn (by rw [e8 k e.symm]; simp)⟩ (p := ⟨fb, 4, none⟩) (by show own fb ≠ none; rw [h2]; simp) _
theorem own_det {base n : Nat} {e : TypeId} {v : Value} {xs ys : List Value} (h : W.ownsRow base e 1 v n xs) (h' : W.ownsRow base e 1 v n ys) : xs = ys := by
  obtain ⟨l1, h1⟩ := h
  obtain ⟨l2, h2⟩ := h'
  rcases h1 with ⟨e1, e2⟩ | ⟨g, cap, cur, e1, _, hg, _, _, _, ht⟩
  · rw [e2] at l1 l2
    simp at l1 l2
    rw [l1, l2]
  · rcases h2 with ⟨e3, _⟩ | ⟨g', cap', cur', e3, _, hg', _, _, _, ht'⟩
    · rw [e1] at e3; cases e3
    · rw [e1] at e3
      injection e3 with e3 _ _
      injection e3 with e3
      injection e3 with e3
      subst e3
      rw [hg] at hg'
      injection hg' with hg'
      injection hg' with hg'
      subst hg'
      rw [← ht, ← ht']
theorem own_set_one {base n c g i : Nat} {e : TypeId} {xs : List Value} (h : W.ownsRow base e 1 (.slice (some ⟨g, 0, none⟩) n c) n xs) (hi : i < n) (v : Value) : (W.setCell ⟨g, i, none⟩ v).ownsRow base e 1 (.slice (some ⟨g, 0, none⟩) n c) n (xs.set i v) := by
  obtain ⟨l1, h1⟩ := h
  refine ⟨by rw [List.length_set]; exact l1, ?_⟩
  rcases h1 with ⟨e1, _⟩ | ⟨g', cap, cur, e1, hb, hg, hn, hm, hs, ht⟩
  · cases e1
  · injection e1 with e1 _ e3
    injection e1 with e1
    injection e1 with e1
    subst e1 e3
    refine .inr ⟨g, c, _, rfl, hb, heap_setCell_same W g i cur e v hg, hn, hm, by simp [hs], ?_⟩
    rw [Array.toList_setIfInBounds, ← ht, List.take_set]
/-- a state that is met more -/
theorem FIs.metted (h : FIs W own base fb mm mf mv f) {A AT A' Ai : Option Addr} {c cM cT c' ci g i s : Nat} {MV : List Value} (hi : i < f.met.length)
    (b1 : W.heap[fb]? = some (.cells (finC mv A f.q.length c mm (some ⟨g, 0, none⟩) f.met.length cM AT f.trees.length cT mf) 85 (0, 0)))
    (r4 : W.ownsRow base 24 1 (.slice (some ⟨g, 0, none⟩) f.met.length cM) f.met.length MV) (hAi : MV[i]? = some (.slice Ai f.met[i].length ci))
    (hr : W3.ownsRow base 3 1 (.slice A' (f.met[i].length + 1) c') (f.met[i].length + 1) (nats f.met[i] ++ [.int .i64 (s : Int)])) (hg : W.grownBy W3 (Value.slice Ai f.met[i].length ci).ownBlock) (hat : ∀ q, (Value.slice A' (f.met[i].length + 1) c').ownBlock = some q → (Value.slice Ai f.met[i].length ci).ownBlock = some q ∨ W.heap.size ≤ q) :
    ∃ own', FIs (W3.setCell ⟨g, i, none⟩ (.slice A' (f.met[i].length + 1) c')) own' base fb mm mf mv { f with met := metAdd f.met i s } ∧ FStep W (W3.setCell ⟨g, i, none⟩ (.slice A' (f.met[i].length + 1) c')) own own' := by
  have h0 := h
  obtain ⟨h1, h2, h3, h4, ⟨A0, c0, AM0, cM0, AT0, cT0, MV0, e1, ⟨e2, e3⟩, ⟨e4, e5⟩, e6, ⟨e7, e8⟩⟩, ⟨n, h6⟩, ⟨n', h7⟩⟩ := h
  rw [b1] at e1
  simp only [finC, Option.some.injEq, Obj.cells.injEq, Array.mk.injEq, List.cons.injEq, Value.slice.injEq, and_true, true_and] at e1
  obtain ⟨⟨rfl, rfl⟩, ⟨rfl, rfl⟩, rfl, rfl⟩ := e1
  obtain rfl := own_det r4 e4
  obtain ⟨Ai0, ci0, i1, i2, i3⟩ := e6 i hi
  rw [hAi] at i1
  injection i1 with i1
  injection i1 with i1 _ i1'
  subst i1 i1'
  obtain ⟨p1, p2⟩ := FOwn.grow h0 (V := .slice Ai f.met[i].length ci) (V' := .slice A' (f.met[i].length + 1) c') i3 hat
  have hle : ∀ q x, own q = some x → own.put (.slice A' (f.met[i].length + 1) c') (.met i) q = some x := fun q x hq => FOwn.put_le _ _ _ _ _ hq
  have hgr : own g = some .metr := e5 g rfl
  have h3k : ∀ q r, own q = some r → r ≠ .met i → W3.heap[q]? = W.heap[q]? := fun q r hq hr => hg.block q (h1 q r hq).2 fun e => by
    have := i3 q e.symm
    rw [hq] at this
    injection this with this
    exact hr this
  have hne : ∀ q r, own q = some r → r ≠ .met i → r ≠ .metr → (W3.setCell ⟨g, i, none⟩ (.slice A' (f.met[i].length + 1) c')).heap[q]? = W.heap[q]? := fun q r hq hr hm => by
    rw [heap_set_other (p := ⟨g, i, none⟩) (fun e => hm (by rw [e, hgr] at hq; injection hq with hq; exact hq.symm))]
    exact h3k q r hq hr
  have hng : (Value.slice A' (f.met[i].length + 1) c').ownBlock ≠ some g := fun e => by
    have := p1 g e
    rw [hle g _ hgr] at this
    injection this with this
    cases this
  have hml : (metAdd f.met i s).length = f.met.length := metAdd_length _ _ _
  refine ⟨own.put (.slice A' (f.met[i].length + 1) c') (.met i), ⟨fun q r hq => ?_, hle _ _ h2, hle _ _ h3, hle _ _ h4, ⟨A, c, some ⟨g, 0, none⟩, cM, AT, cT, MV.set i (.slice A' (f.met[i].length + 1) c'), ?_, ⟨fown_block e2 fun q hq => hne q _ (e3 q hq) (by simp) (by simp), fun q hq => hle _ _ (e3 q hq)⟩, ?_, fun j hj => ?_,
    ⟨fown_block e7 fun q hq => hne q _ (e8 q hq) (by simp) (by simp), fun q hq => hle _ _ (e8 q hq)⟩⟩, ⟨n, h6.block (hne mm _ h3 (by simp) (by simp))⟩, ⟨n', h7.block (hne mf _ h4 (by simp) (by simp))⟩⟩, ⟨?_, hle, fun q r hq => (p2 q r hq).imp id (·.1)⟩⟩
  · rw [size_set]
    rcases p2 q r hq with h9 | ⟨h9, h10⟩
    · have := h1 q r h9
      have := hg.size
      omega
    · exact hr.lt q h10
  · show (W3.setCell _ _).heap[fb]? = some (.cells (#[mv, .slice A f.q.length c, .map (some mm), .slice (some ⟨g, 0, none⟩) (metAdd f.met i s).length cM, .slice AT f.trees.length cT, .map (some mf)]) _ _)
    rw [hml]
    exact (hne fb _ h2 (by simp) (by simp)).trans b1
  · show (W3.setCell _ _).ownsRow base _ 1 (.slice (some ⟨g, 0, none⟩) (metAdd f.met i s).length cM) (metAdd f.met i s).length _ ∧ ∀ q, (Value.slice (some ⟨g, 0, none⟩) (metAdd f.met i s).length cM).ownBlock = some q → _
    rw [hml]
    refine ⟨own_set_one (fown_block r4 fun q hq => h3k q _ (e5 q hq) (by simp)) hi _, fun q hq => hle _ _ (e5 q hq)⟩
  · have hj' : j < f.met.length := by rw [← hml]; exact hj
    have hmj := metAdd_at hj
    show ∃ A'_1 c'_1, (MV.set i _)[j]? = some (.slice A'_1 (metAdd f.met i s)[j].length c'_1) ∧ (W3.setCell _ _).ownsRow base _ 1 (.slice A'_1 (metAdd f.met i s)[j].length c'_1) (metAdd f.met i s)[j].length (nats (metAdd f.met i s)[j]) ∧ ∀ q, (Value.slice A'_1 (metAdd f.met i s)[j].length c'_1).ownBlock = some q → _
    rw [hmj]
    by_cases hji : j = i
    · subst hji
      simp only [if_true]
      have hll : (f.met[j] ++ [s]).length = f.met[j].length + 1 := by simp
      rw [hll, nats_append]
      have hmv : j < MV.length := by have := r4.1; omega
      exact ⟨A', c', by rw [List.getElem?_set_self hmv], ownsRow_setCell_other hr hng _, p1⟩
    · simp only [if_neg hji]
      obtain ⟨A9, c9, e10, e11, e12⟩ := e6 j hj'
      refine ⟨A9, c9, by rw [List.getElem?_set_ne (fun e => hji e.symm)]; exact e10, fown_block e11 fun q hq => hne q _ (e12 q hq) (fun e => hji (by injection e)) (by simp), fun q hq => hle _ _ (e12 q hq)⟩
  · refine Kb.set (w := W) (w' := W3) (S := fun k => own k ≠ none) ⟨hg.os, hg.tape, hg.output, hg.size, fun k hk hn => hg.block k hk fun e => hn (by rw [i3 k e.symm]; simp)⟩ (p := ⟨g, i, none⟩) (by show own g ≠ none; rw [hgr]; simp) _
end
end Go.Proofs.Ytbipdnnalhdoaaa
