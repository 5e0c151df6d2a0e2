/- slices.Reverse of trees. The finder in memory: what becomes of it by a mark, a state that is met, a tree's state that is found. -/
import Derived.Test.YtnkelhmjkmeilaaGreatDoorT16
import Derived.Test.YtnkelhmjkmeilaaGreatDoorT20
section
namespace Go.Proofs.YtnkelhmjkmeilaaGreatDoor.H
open Go.RowKit Go.Maps Go.WideMaps
attribute [local go_sem ↓] Go.wp_at_zero Go.wp_at_succ
def prC : List (Value × Value) → List Value
  | [] => []
  | p :: l => p.1 :: p.2 :: prC l
theorem prC_len : ∀ l : List (Value × Value), (prC l).length = l.length * 2
  | [] => rfl
  | p :: l => by rw [prC, List.length_cons, List.length_cons, prC_len l, List.length_cons]; omega
theorem prC_at : ∀ {l : List (Value × Value)} {k : Nat} {p : Value × Value}, l[k]? = some p → (prC l)[k * 2]? = some p.1 ∧ (prC l)[k * 2 + 1]? = some p.2
  | [], k, p, h => by simp at h
  | q :: l, 0, p, h => by simp at h; subst h; exact ⟨rfl, rfl⟩
  | q :: l, k + 1, p, h => by
    have := prC_at (l := l) (k := k) (p := p) (by simpa using h)
    rw [show (k + 1) * 2 = k * 2 + 1 + 1 by omega, prC]
    exact this
theorem prC_set : ∀ (l : List (Value × Value)) (k : Nat) (p : Value × Value), prC (l.set k p) = ((prC l).set (k * 2) p.1).set (k * 2 + 1) p.2
  | [], k, p => rfl
  | q :: l, 0, p => rfl
  | q :: l, k + 1, p => by
    rw [List.set_cons_succ, prC, prC, show (k + 1) * 2 = k * 2 + 1 + 1 by omega, List.set_cons_succ, List.set_cons_succ, List.set_cons_succ, List.set_cons_succ, prC_set l k p]
theorem prC_append (l m : List (Value × Value)) : prC (l ++ m) = prC l ++ prC m := by
  induction l with
  | nil => rfl
  | cons p l ih => rw [List.cons_append, prC, prC, ih]; rfl
theorem trs_turn {w : World} {S : Nat → Prop} : ∀ {l : List Tr} {xs : List Value}, CsIsP w S (trsC l) xs → ∃ ps, xs = prC ps ∧ ps.length = l.length ∧ CsIsP w S (trsC l.reverse) (prC ps.reverse)
  | [], xs, h => by
    simp only [trsC, CsIsP] at h
    subst h
    exact ⟨[], rfl, rfl, CsIsP.nil w S⟩
  | t :: l, xs, h => by
    rw [trsC, trC_eq] at h
    simp only [List.cons_append, List.nil_append, CsIsP] at h
    obtain ⟨v1, ys, rfl, h1, v2, zs, rfl, h2, h3⟩ := h
    obtain ⟨ps, rfl, hl, h4⟩ := trs_turn h3
    refine ⟨(v1, v2) :: ps, rfl, by simp [hl], ?_⟩
    rw [List.reverse_cons, List.reverse_cons, prC_append, trsC_append]
    refine h4.append ?_
    rw [trsC, trC_eq, trsC]
    exact CsIsP.cons (by simpa only [CIsP] using h1) (CsIsP.cons (by simpa only [CIsP] using h2) (CsIsP.nil w S))
theorem own_setz {W : World} {base n c g i z : Nat} {e : TypeId} {xs : List Value} (h : W.ownsRow base e z (.slice (some ⟨g, 0, none⟩) n c) n xs) (v : Value) : (W.setCell ⟨g, i, none⟩ v).ownsRow base e z (.slice (some ⟨g, 0, none⟩) n c) n (xs.set i v) := by
  obtain ⟨l1, h1⟩ := h
  refine ⟨by rw [List.length_set]; exact l1, ?_⟩
  rcases h1 with ⟨e1, _⟩ | ⟨g', cap, cur, e1, hb, hg, hn, hm, hs, ht⟩
  · cases e1
  · injection e1 with e1 _ e3
    injection e1 with e1
    injection e1 with e1
    subst e1 e3
    refine .inr ⟨g, c, _, rfl, hb, heap_setCell_same W g i cur e v hg, hn, hm, by simp [hs], ?_⟩
    rw [Array.toList_setIfInBounds, ← ht, List.take_set]
theorem own_open {W : World} {base n c g z : Nat} {e : TypeId} {xs : List Value} (h : W.ownsRow base e z (.slice (some ⟨g, 0, none⟩) n c) n xs) :
    ∃ cur : Array Value, W.heap[g]? = some (.cells cur e (0, 0)) ∧ n ≤ c ∧ c ≤ maxLen ∧ cur.size = c * z ∧ base ≤ g ∧ ∀ (j : Nat) (u : Value), xs[j]? = some u → cur[j]? = some u := by
  rcases h.2 with ⟨e1, _⟩ | ⟨g', cap, cur, e1, hb, hg, hn, hm, hs, ht⟩
  · cases e1
  · injection e1 with e1 _ e3
    injection e1 with e1
    injection e1 with e1
    subst e1 e3
    refine ⟨cur, hg, hn, hm, hs, hb, fun j u hu => ?_⟩
    rw [← ht, List.getElem?_take] at hu
    split at hu
    · rw [← Array.getElem?_toList]; exact hu
    · cases hu
def RevI (ps : List (Value × Value)) (i : Nat) (cs : List (Value × Value)) : Prop := cs.length = ps.length ∧ ∀ k, k < ps.length → cs[k]? = if k < i ∨ ps.length ≤ k + i then ps[ps.length - 1 - k]? else ps[k]?
theorem RevI.zero (ps : List (Value × Value)) : RevI ps 0 ps := ⟨rfl, fun k hk => by rw [if_neg (by omega)]⟩
theorem RevI.step {ps cs : List (Value × Value)} {i j : Nat} (h : RevI ps i cs) (hij : i < j) (hn : i + j + 1 = ps.length) {p q : Value × Value} (hp : cs[i]? = some p) (hq : cs[j]? = some q) : RevI ps (i + 1) ((cs.set i q).set j p) := by
  obtain ⟨h1, h2⟩ := h
  refine ⟨by simp [h1], fun k hk => ?_⟩
  have hi := h2 i (by omega)
  have hj := h2 j (by omega)
  rw [if_neg (by omega)] at hi hj
  rw [List.getElem?_set, List.getElem?_set, List.length_set, h1]
  by_cases e1 : j = k
  · subst e1
    rw [if_pos rfl, if_pos (by omega), if_pos (by omega), ← hp, hi]
    congr 1
    omega
  · rw [if_neg e1]
    by_cases e2 : i = k
    · subst e2
      rw [if_pos rfl, if_pos (by omega), if_pos (by omega), ← hq, hj]
      congr 1
      omega
    · rw [if_neg e2, h2 k hk]
      by_cases e3 : k < i ∨ ps.length ≤ k + i
      · rw [if_pos e3, if_pos (by omega)]
      · rw [if_neg e3, if_neg (by omega)]
theorem RevI.done {ps cs : List (Value × Value)} {i : Nat} (h : RevI ps i cs) (hi : ps.length ≤ 2 * i + 1) : cs = ps.reverse := by
  obtain ⟨h1, h2⟩ := h
  apply List.ext_getElem?
  intro k
  by_cases hk : k < ps.length
  · rw [h2 k hk, List.getElem?_reverse hk]
    split
    · rfl
    · rename_i h9
      congr 1
      omega
  · rw [List.getElem?_eq_none (by omega), List.getElem?_eq_none (by simp; omega)]
set_option maxHeartbeats 2000000 in
set_option maxRecDepth 100000 in
theorem reverse_any {w : World} {base n c : Nat} {A : Option Addr} {ps : List (Value × Value)} (h : w.ownsRow base 157 2 (.slice A n c) n (prC ps)) (hn : n ≤ 1000000000000) (h1 : ∀ p ∈ ps, ∃ a A n c, p = (.int .i64 a, .slice A n c)) :
    Calls Tryz.prog 156 #[.slice A n c] w fun e w' => e = .returned (.tuple #[]) ∧ w'.ownsRow base 157 2 (.slice A n c) n (prC ps.reverse) ∧ w.grownBy w' (Value.slice A n c).ownBlock := by
  have hlen : ps.length = n := by have := h.1; rw [prC_len] at this; omega
  go_enter Tryz.func156, Tryz.ntmps156
  have H := Lib.hid h
  have H1 := Lib.hid h1
  have HL := Lib.hid hlen
  clear h h1 hlen
  go_wp2
  go_loopw [2, 3] (fun iv jv wr => ∃ (i : Nat) (j : Int) (cs : List (Value × Value)), iv = .int .i64 i ∧ jv = .int .i64 j ∧ (i : Int) + j + 1 = n ∧ 2 * i ≤ n ∧ Hid (RevI ps i cs) ∧ wr.ownsRow base 157 2 (.slice A n c) n (prC cs) ∧ w.grownBy wr (Value.slice A n c).ownBlock) (fun iv _ wr => n - (intOf iv).toNat)
  case atStart => exact ⟨0, _, ps, rfl, rfl, by omega, by omega, RevI.zero ps, H.out, grown_refl _ _⟩
  case round =>
    obtain ⟨i, j', cs, rfl, rfl, hij, hi2, hR, hO, hG⟩ := hrel
    by_cases hlt : (i : Int) < j'
    · obtain ⟨j, rfl⟩ : ∃ j : Nat, j' = (j : Int) := ⟨j'.toNat, by omega⟩
      have hlen := HL.out
      have hcl := hR.out.1
      obtain ⟨g, rfl⟩ : ∃ g, A = some ⟨g, 0, none⟩ := by
        rcases hO.2 with ⟨hv, _⟩ | ⟨g, cap, cur, hv, _⟩
        · injection hv with _ hv _; omega
        · injection hv with hv; exact ⟨g, hv⟩
      obtain ⟨p, hp⟩ : ∃ p, cs[i]? = some p := ⟨cs[i]'(by omega), List.getElem?_eq_getElem _⟩
      obtain ⟨q, hq⟩ : ∃ q, cs[j]? = some q := ⟨cs[j]'(by omega), List.getElem?_eq_getElem _⟩
      obtain ⟨cur, o1, o2, o3, o4, o5, o6⟩ := own_open hO
      obtain ⟨p0, p1⟩ := prC_at hp
      obtain ⟨q0, q1⟩ := prC_at hq
      have i0 := (Lib.cell_of_heap o1 (i * 2)).trans (o6 _ _ p0)
      have i1 := (Lib.cell_of_heap o1 (i * 2 + 1)).trans (o6 _ _ p1)
      have j0 := (Lib.cell_of_heap o1 (j * 2)).trans (o6 _ _ q0)
      have j1 := (Lib.cell_of_heap o1 (j * 2 + 1)).trans (o6 _ _ q1)
      have fi0 := Lib.frozen_of_heap o1 (i * 2)
      have fi1 := Lib.frozen_of_heap o1 (i * 2 + 1)
      have fj0 := Lib.frozen_of_heap o1 (j * 2)
      have fj1 := Lib.frozen_of_heap o1 (j * 2 + 1)
      obtain ⟨u0, k0⟩ := cell_set_some (w := wr) (p := ⟨g, i * 2, none⟩) (v := q.1) (by rw [j0]; rfl)
      obtain ⟨u1, k1⟩ := cell_set_some (w := wr.setCell ⟨g, i * 2, none⟩ q.1) (p := ⟨g, i * 2 + 1, none⟩) (v := q.2) (some_set (p := ⟨g, i * 2, none⟩) (v := q.1) (by rw [j1]; rfl))
      have hpm : p ∈ ps := by
        have := hR.out.2 i (by omega)
        rw [if_neg (by omega), hp] at this
        exact List.mem_of_getElem? this.symm
      have hqm : q ∈ ps := by
        have := hR.out.2 j (by omega)
        rw [if_neg (by omega), hq] at this
        exact List.mem_of_getElem? this.symm
      obtain ⟨pl, pA, pn, pc, hpe⟩ := H1.out p hpm
      obtain ⟨ql, qA, qn, qc, hqe⟩ := H1.out q hqm
      clear hpm hqm
      have hRS := hR.out.step (by omega) (by omega) hp hq
      have hO2 := (((own_setz hO (i := i * 2) q.1) |> (own_setz (i := i * 2 + 1) · q.2)) |> (own_setz (i := j * 2) · p.1)) |> (own_setz (i := j * 2 + 1) · p.2)
      have hce : ((((prC cs).set (i * 2) q.1).set (i * 2 + 1) q.2).set (j * 2) p.1).set (j * 2 + 1) p.2 = prC ((cs.set i q).set j p) := by rw [prC_set, prC_set]
      rw [hce] at hO2
      have hG2 := grown_trans hG (show wr.grownBy ((((wr.setCell ⟨g, i * 2, none⟩ q.1).setCell ⟨g, i * 2 + 1, none⟩ q.2).setCell ⟨g, j * 2, none⟩ p.1).setCell ⟨g, j * 2 + 1, none⟩ p.2) (some g) from
        ⟨rfl, rfl, rfl, by simp only [size_set]; exact Nat.le_refl _, fun k _ hk => by
          have hne : k ≠ g := fun e => hk (by rw [e])
          rw [heap_set_other (p := ⟨g, j * 2 + 1, none⟩) hne, heap_set_other (p := ⟨g, j * 2, none⟩) hne, heap_set_other (p := ⟨g, i * 2 + 1, none⟩) hne, heap_set_other (p := ⟨g, i * 2, none⟩) hne]⟩)
      have HO2 := Lib.hid hO2
      have HG2 := Lib.hid hG2
      have HR2 := Lib.hid hRS
      have hiI : (i : Int) < (n : Int) := by omega
      have hjI : (j : Int) < (n : Int) := by omega
      have hi0 : (0 : Int) ≤ (i : Int) := by omega
      have hj0 : (0 : Int) ≤ (j : Int) := by omega
      clear hR hO hG hRS hO2 hG2 hce o1 o2 o3 o4 o5 o6 p0 p1 q0 q1 hp hq hcl hlen
      subst hpe hqe
      simp only at i0 i1 j0 j1 k0 k1 HO2 HG2
      go_wp2
      go_region
      all_goals
        go_wp2
        refine ⟨⟨i + 1, (j : Int) - 1, _, by go_num, rfl, by omega, by omega, HR2.out, HO2.out.drew, grown_drew HG2.out⟩, ?_⟩
        simp [intOf]
        omega
    · have HE := Lib.hid (hR.out.done (by have := HL.out; omega))
      have hlt' : ¬ (i : Int) < j' := hlt
      have HO := Lib.hid hO
      have HG := Lib.hid hG
      clear hO hG hij
      go_wp2
      refine bodyPost_end (results_none rfl _ _ _) rfl ⟨rfl, by rw [← HE.out]; exact HO.out, HG.out⟩
end Go.Proofs.YtnkelhmjkmeilaaGreatDoor.H
end
section
namespace Go.Proofs.YtnkelhmjkmeilaaGreatDoor.H
open Go.RowKit Go.Maps Go.WideMaps
section
variable {W W3 W4 : World} {own : FOwn} {base fb mm mf : Nat} {mv : Value} {f : FS}
theorem FIs.ne (h : FIs W own base fb mm mf mv f) : fb ≠ mm ∧ fb ≠ mf ∧ mm ≠ mf := by
  refine ⟨fun e => ?_, fun e => ?_, fun e => ?_⟩
  · have := h.fin; rw [e, h.mkm] at this; injection this with this; cases this
  · have := h.fin; rw [e, h.fnm] at this; injection this with this; cases this
  · have := h.mkm; rw [e, h.fnm] at this; injection this with this; cases this
theorem FIs.marked (h : FIs W own base fb mm mf mv f) {n : Nat} {mar' : Nat → Nat → Option (Stp × Bool)} (hm : MapIs Tryz.prog 198 W3 mm n (mkF mar')) (hg : W.grownBy W3 (some mm)) :
    FIs W3 own base fb mm mf mv { f with mar := mar' } ∧ FStep W W3 own own := by
  have hne : ∀ q r, own q = some r → r ≠ .mkm → W3.heap[q]? = W.heap[q]? := fun q r hq hr => hg.block q (h.lt q r hq).2 fun e => by
    injection e with e
    rw [e, h.mkm] at hq
    injection hq with hq
    exact hr hq.symm
  obtain ⟨h1, h2, h3, h4, ⟨A, c, AM, cM, AT, cT, MV, b1, ⟨b2, b3⟩, ⟨b4, b5⟩, b6, ⟨b7, b8⟩⟩, _, ⟨n', h7⟩⟩ := h
  refine ⟨⟨fun q r hq => ⟨(h1 q r hq).1, Nat.lt_of_lt_of_le (h1 q r hq).2 hg.size⟩, h2, h3, h4, ⟨A, c, AM, cM, AT, cT, MV, (hne fb _ h2 (by simp)).trans b1, ⟨fown_block b2 fun q hq => hne q _ (b3 q hq) (by simp), b3⟩, ⟨fown_block b4 fun q hq => hne q _ (b5 q hq) (by simp), b5⟩, fun i hi => ?_, ⟨fown_block b7 fun q hq => hne q _ (b8 q hq) (by simp), b8⟩⟩, ⟨n, hm⟩, ⟨n', h7.block (hne mf _ h4 (by simp))⟩⟩,
    ⟨hg.os, hg.tape, hg.output, hg.size, fun k hk hn => hg.block k hk fun e => hn (by injection e with e; rw [e, h3]; simp)⟩, fun _ _ h => h, fun _ _ h => .inl h⟩
  obtain ⟨A', c', e1, e2, e3⟩ := b6 i hi
  exact ⟨A', c', e1, fown_block e2 fun q hq => hne q _ (e3 q hq) (by simp), e3⟩
theorem FIs.founded (h : FIs W own base fb mm mf mv f) {n : Nat} {fnd' : Nat → Option Src} (hm : MapIs Tryz.prog 3 W3 mf n (fnF fnd')) (hg : W.grownBy W3 (some mf)) :
    FIs W3 own base fb mm mf mv { f with fnd := fnd' } ∧ FStep W W3 own own := by
  have hne : ∀ q r, own q = some r → r ≠ .fnm → W3.heap[q]? = W.heap[q]? := fun q r hq hr => hg.block q (h.lt q r hq).2 fun e => by
    injection e with e
    rw [e, h.fnm] at hq
    injection hq with hq
    exact hr hq.symm
  obtain ⟨h1, h2, h3, h4, ⟨A, c, AM, cM, AT, cT, MV, b1, ⟨b2, b3⟩, ⟨b4, b5⟩, b6, ⟨b7, b8⟩⟩, ⟨n', h7⟩, _⟩ := h
  refine ⟨⟨fun q r hq => ⟨(h1 q r hq).1, Nat.lt_of_lt_of_le (h1 q r hq).2 hg.size⟩, h2, h3, h4, ⟨A, c, AM, cM, AT, cT, MV, (hne fb _ h2 (by simp)).trans b1, ⟨fown_block b2 fun q hq => hne q _ (b3 q hq) (by simp), b3⟩, ⟨fown_block b4 fun q hq => hne q _ (b5 q hq) (by simp), b5⟩, fun i hi => ?_, ⟨fown_block b7 fun q hq => hne q _ (b8 q hq) (by simp), b8⟩⟩, ⟨n', h7.block (hne mm _ h3 (by simp))⟩, ⟨n, hm⟩⟩,
    ⟨hg.os, hg.tape, hg.output, hg.size, fun k hk hn => hg.block k hk fun e => hn (by injection e with e; rw [e, h4]; simp)⟩, fun _ _ h => h, fun _ _ h => .inl h⟩
  obtain ⟨A', c', e1, e2, e3⟩ := b6 i hi
  exact ⟨A', c', e1, fown_block e2 fun q hq => hne q _ (e3 q hq) (by simp), e3⟩
theorem FOwn.grow (h : FIs W own base fb mm mf mv f) {V V' : Value} {r : FR} (hV : ∀ q, V.ownBlock = some q → own q = some r) (hat : ∀ q, V'.ownBlock = some q → V.ownBlock = some q ∨ W.heap.size ≤ q) :
    (∀ q, V'.ownBlock = some q → own.put V' r q = some r) ∧ (∀ q x, own.put V' r q = some x → own q = some x ∨ (W.heap.size ≤ q ∧ V'.ownBlock = some q)) := by
  refine ⟨fun q hq => FOwn.put_is hq ?_, fun q x hx => ?_⟩
  · rcases hat q hq with h9 | h9
    · exact .inr (hV q h9)
    · left
      cases ho : own q with
      | none => rfl
      | some x => have := (h.lt q x ho).2; omega
  · rcases FOwn.put_inv hx with h9 | ⟨h9, rfl⟩
    · exact .inl h9
    · rcases hat q h9 with h8 | h8
      · exact .inl (hV q h8)
      · exact .inr ⟨h8, h9⟩
theorem FIs.treed (h : FIs W own base fb mm mf mv f) {A AM AT AT' : Option Addr} {c cM cT cT' v : Nat}
    (b1 : W.heap[fb]? = some (.cells (finC mv A f.q.length c mm AM f.met.length cM AT f.trees.length cT mf) 244 (0, 0)))
    (hr : W3.ownsRow base 3 1 (.slice AT' (f.trees.length + 1) cT') (f.trees.length + 1) (nats f.trees ++ [.int .i64 (v : Int)])) (hg : W.grownBy W3 (Value.slice AT f.trees.length cT).ownBlock) (hat : ∀ q, (Value.slice AT' (f.trees.length + 1) cT').ownBlock = some q → (Value.slice AT f.trees.length cT).ownBlock = some q ∨ W.heap.size ≤ q) :
    ∃ own', FIs (W3.setCell ⟨fb, 4, none⟩ (.slice AT' (f.trees.length + 1) cT')) own' base fb mm mf mv { f with trees := f.trees ++ [v] } ∧ FStep W (W3.setCell ⟨fb, 4, none⟩ (.slice AT' (f.trees.length + 1) cT')) own own' := by
  have h0 := h
  obtain ⟨h1, h2, h3, h4, ⟨A0, c0, AM0, cM0, AT0, cT0, MV, e1, ⟨e2, e3⟩, ⟨e4, e5⟩, e6, ⟨e7, e8⟩⟩, ⟨n, h6⟩, ⟨n', h7⟩⟩ := h
  rw [b1] at e1
  simp only [finC, Option.some.injEq, Obj.cells.injEq, Array.mk.injEq, List.cons.injEq, Value.slice.injEq, and_true, true_and] at e1
  obtain ⟨⟨rfl, rfl⟩, ⟨rfl, rfl⟩, rfl, rfl⟩ := e1
  obtain ⟨p1, p2⟩ := FOwn.grow h0 (V := .slice AT f.trees.length cT) (V' := .slice AT' (f.trees.length + 1) cT') e8 hat
  have hle : ∀ q x, own q = some x → own.put (.slice AT' (f.trees.length + 1) cT') .tre q = some x := fun q x hq => FOwn.put_le _ _ _ _ _ hq
  have hne : ∀ q r, own q = some r → r ≠ .tre → q ≠ fb → (W3.setCell ⟨fb, 4, none⟩ (.slice AT' (f.trees.length + 1) cT')).heap[q]? = W.heap[q]? := fun q r hq hr hf => by
    rw [heap_set_other (p := ⟨fb, 4, none⟩) hf]
    refine hg.block q (h1 q r hq).2 fun e => ?_
    have := e8 q e.symm
    rw [hq] at this
    injection this with this
    exact hr this
  have hfb3 : W3.heap[fb]? = W.heap[fb]? := hg.block fb (h1 fb _ h2).2 fun e => by
    have := e8 fb e.symm
    rw [h2] at this
    injection this with this
    cases this
  have hnf : ∀ q r, own q = some r → r ≠ .fin → q ≠ fb := fun q r hq hr e => by
    rw [e, h2] at hq
    injection hq with hq
    exact hr hq.symm
  have hll : (f.trees ++ [v]).length = f.trees.length + 1 := by simp
  have hnf' : (Value.slice AT' (f.trees.length + 1) cT').ownBlock ≠ some fb := fun e => by
    have := p1 fb e
    rw [hle fb _ h2] at this
    injection this with this
    cases this
  refine ⟨own.put (.slice AT' (f.trees.length + 1) cT') .tre, ⟨fun q r hq => ?_, hle _ _ h2, hle _ _ h3, hle _ _ h4, ⟨A, c, AM, cM, AT', cT', MV, ?_, ⟨fown_block e2 fun q hq => hne q _ (e3 q hq) (by simp) (hnf q _ (e3 q hq) (by simp)), fun q hq => hle _ _ (e3 q hq)⟩,
    ⟨fown_block e4 fun q hq => hne q _ (e5 q hq) (by simp) (hnf q _ (e5 q hq) (by simp)), fun q hq => hle _ _ (e5 q hq)⟩, fun i hi => ?_, ?_⟩, ⟨n, h6.block (hne mm _ h3 (by simp) (hnf mm _ h3 (by simp)))⟩, ⟨n', h7.block (hne mf _ h4 (by simp) (hnf mf _ h4 (by simp)))⟩⟩, ⟨?_, hle, fun q r hq => (p2 q r hq).imp id (·.1)⟩⟩
  · rw [size_set]
    rcases p2 q r hq with h9 | ⟨h9, h10⟩
    · have := h1 q r h9
      have := hg.size
      omega
    · exact hr.lt q h10
  · have := heap_setCell_same W3 fb 4 _ _ (.slice AT' (f.trees.length + 1) cT') (hfb3.trans b1)
    rw [this]
    simp [finC]
  · obtain ⟨A9, c9, e10, e11, e12⟩ := e6 i hi
    exact ⟨A9, c9, e10, fown_block e11 fun q hq => hne q _ (e12 q hq) (by simp) (hnf q _ (e12 q hq) (by simp)), fun q hq => hle _ _ (e12 q hq)⟩
  · show (W3.setCell _ _).ownsRow base _ 1 (.slice AT' (f.trees ++ [v]).length cT') (f.trees ++ [v]).length (nats (f.trees ++ [v])) ∧ ∀ q, (Value.slice AT' (f.trees ++ [v]).length cT').ownBlock = some q → _
    rw [hll, nats_append]
    exact ⟨ownsRow_setCell_other hr hnf' _, p1⟩
  · refine Kb.set (w := W) (w' := W3) (S := fun k => own k ≠ none) ⟨hg.os, hg.tape, hg.output, hg.size, fun k hk hn => hg.block k hk fun e => hn (by rw [e8 k e.symm]; simp)⟩ (p := ⟨fb, 4, none⟩) (by show own fb ≠ none; rw [h2]; simp) _
theorem own_det {base n : Nat} {e : TypeId} {v : Value} {xs ys : List Value} (h : W.ownsRow base e 1 v n xs) (h' : W.ownsRow base e 1 v n ys) : xs = ys := by
  obtain ⟨l1, h1⟩ := h
  obtain ⟨l2, h2⟩ := h'
  rcases h1 with ⟨e1, e2⟩ | ⟨g, cap, cur, e1, _, hg, _, _, _, ht⟩
  · rw [e2] at l1 l2
    simp at l1 l2
    rw [l1, l2]
  · rcases h2 with ⟨e3, _⟩ | ⟨g', cap', cur', e3, _, hg', _, _, _, ht'⟩
    · rw [e1] at e3; cases e3
    · rw [e1] at e3
      injection e3 with e3 _ _
      injection e3 with e3
      injection e3 with e3
      subst e3
      rw [hg] at hg'
      injection hg' with hg'
      injection hg' with hg'
      subst hg'
      rw [← ht, ← ht']
theorem own_set_one {base n c g i : Nat} {e : TypeId} {xs : List Value} (h : W.ownsRow base e 1 (.slice (some ⟨g, 0, none⟩) n c) n xs) (_hi : i < n) (v : Value) : (W.setCell ⟨g, i, none⟩ v).ownsRow base e 1 (.slice (some ⟨g, 0, none⟩) n c) n (xs.set i v) := by
  obtain ⟨l1, h1⟩ := h
  refine ⟨by rw [List.length_set]; exact l1, ?_⟩
  rcases h1 with ⟨e1, _⟩ | ⟨g', cap, cur, e1, hb, hg, hn, hm, hs, ht⟩
  · cases e1
  · injection e1 with e1 _ e3
    injection e1 with e1
    injection e1 with e1
    subst e1 e3
    refine .inr ⟨g, c, _, rfl, hb, heap_setCell_same W g i cur e v hg, hn, hm, by simp [hs], ?_⟩
    rw [Array.toList_setIfInBounds, ← ht, List.take_set]
theorem FIs.metted (h : FIs W own base fb mm mf mv f) {A AT A' Ai : Option Addr} {c cM cT c' ci g i s : Nat} {MV : List Value} (hi : i < f.met.length)
    (b1 : W.heap[fb]? = some (.cells (finC mv A f.q.length c mm (some ⟨g, 0, none⟩) f.met.length cM AT f.trees.length cT mf) 244 (0, 0)))
    (r4 : W.ownsRow base 111 1 (.slice (some ⟨g, 0, none⟩) f.met.length cM) f.met.length MV) (hAi : MV[i]? = some (.slice Ai f.met[i].length ci))
    (hr : W3.ownsRow base 3 1 (.slice A' (f.met[i].length + 1) c') (f.met[i].length + 1) (nats f.met[i] ++ [.int .i64 (s : Int)])) (hg : W.grownBy W3 (Value.slice Ai f.met[i].length ci).ownBlock) (hat : ∀ q, (Value.slice A' (f.met[i].length + 1) c').ownBlock = some q → (Value.slice Ai f.met[i].length ci).ownBlock = some q ∨ W.heap.size ≤ q) :
    ∃ own', FIs (W3.setCell ⟨g, i, none⟩ (.slice A' (f.met[i].length + 1) c')) own' base fb mm mf mv { f with met := metAdd f.met i s } ∧ FStep W (W3.setCell ⟨g, i, none⟩ (.slice A' (f.met[i].length + 1) c')) own own' := by
  have h0 := h
  obtain ⟨h1, h2, h3, h4, ⟨A0, c0, AM0, cM0, AT0, cT0, MV0, e1, ⟨e2, e3⟩, ⟨e4, e5⟩, e6, ⟨e7, e8⟩⟩, ⟨n, h6⟩, ⟨n', h7⟩⟩ := h
  rw [b1] at e1
  simp only [finC, Option.some.injEq, Obj.cells.injEq, Array.mk.injEq, List.cons.injEq, Value.slice.injEq, and_true, true_and] at e1
  obtain ⟨⟨rfl, rfl⟩, ⟨rfl, rfl⟩, rfl, rfl⟩ := e1
  obtain rfl := own_det r4 e4
  obtain ⟨Ai0, ci0, i1, i2, i3⟩ := e6 i hi
  rw [hAi] at i1
  injection i1 with i1
  injection i1 with i1 _ i1'
  subst i1 i1'
  obtain ⟨p1, p2⟩ := FOwn.grow h0 (V := .slice Ai f.met[i].length ci) (V' := .slice A' (f.met[i].length + 1) c') i3 hat
  have hle : ∀ q x, own q = some x → own.put (.slice A' (f.met[i].length + 1) c') (.met i) q = some x := fun q x hq => FOwn.put_le _ _ _ _ _ hq
  have hgr : own g = some .metr := e5 g rfl
  have h3k : ∀ q r, own q = some r → r ≠ .met i → W3.heap[q]? = W.heap[q]? := fun q r hq hr => hg.block q (h1 q r hq).2 fun e => by
    have := i3 q e.symm
    rw [hq] at this
    injection this with this
    exact hr this
  have hne : ∀ q r, own q = some r → r ≠ .met i → r ≠ .metr → (W3.setCell ⟨g, i, none⟩ (.slice A' (f.met[i].length + 1) c')).heap[q]? = W.heap[q]? := fun q r hq hr hm => by
    rw [heap_set_other (p := ⟨g, i, none⟩) (fun e => hm (by rw [e, hgr] at hq; injection hq with hq; exact hq.symm))]
    exact h3k q r hq hr
  have hng : (Value.slice A' (f.met[i].length + 1) c').ownBlock ≠ some g := fun e => by
    have := p1 g e
    rw [hle g _ hgr] at this
    injection this with this
    cases this
  have hml : (metAdd f.met i s).length = f.met.length := metAdd_length _ _ _
  refine ⟨own.put (.slice A' (f.met[i].length + 1) c') (.met i), ⟨fun q r hq => ?_, hle _ _ h2, hle _ _ h3, hle _ _ h4, ⟨A, c, some ⟨g, 0, none⟩, cM, AT, cT, MV.set i (.slice A' (f.met[i].length + 1) c'), ?_, ⟨fown_block e2 fun q hq => hne q _ (e3 q hq) (by simp) (by simp), fun q hq => hle _ _ (e3 q hq)⟩, ?_, fun j hj => ?_,
    ⟨fown_block e7 fun q hq => hne q _ (e8 q hq) (by simp) (by simp), fun q hq => hle _ _ (e8 q hq)⟩⟩, ⟨n, h6.block (hne mm _ h3 (by simp) (by simp))⟩, ⟨n', h7.block (hne mf _ h4 (by simp) (by simp))⟩⟩, ⟨?_, hle, fun q r hq => (p2 q r hq).imp id (·.1)⟩⟩
  · rw [size_set]
    rcases p2 q r hq with h9 | ⟨h9, h10⟩
    · have := h1 q r h9
      have := hg.size
      omega
    · exact hr.lt q h10
  · show (W3.setCell _ _).heap[fb]? = some (.cells (#[mv, .slice A f.q.length c, .map (some mm), .slice (some ⟨g, 0, none⟩) (metAdd f.met i s).length cM, .slice AT f.trees.length cT, .map (some mf)]) _ _)
    rw [hml]
    exact (hne fb _ h2 (by simp) (by simp)).trans b1
  · show (W3.setCell _ _).ownsRow base _ 1 (.slice (some ⟨g, 0, none⟩) (metAdd f.met i s).length cM) (metAdd f.met i s).length _ ∧ ∀ q, (Value.slice (some ⟨g, 0, none⟩) (metAdd f.met i s).length cM).ownBlock = some q → _
    rw [hml]
    refine ⟨own_set_one (fown_block r4 fun q hq => h3k q _ (e5 q hq) (by simp)) hi _, fun q hq => hle _ _ (e5 q hq)⟩
  · have hj' : j < f.met.length := by rw [← hml]; exact hj
    have hmj := metAdd_at hj
    show ∃ A'_1 c'_1, (MV.set i _)[j]? = some (.slice A'_1 (metAdd f.met i s)[j].length c'_1) ∧ (W3.setCell _ _).ownsRow base _ 1 (.slice A'_1 (metAdd f.met i s)[j].length c'_1) (metAdd f.met i s)[j].length (nats (metAdd f.met i s)[j]) ∧ ∀ q, (Value.slice A'_1 (metAdd f.met i s)[j].length c'_1).ownBlock = some q → _
    rw [hmj]
    by_cases hji : j = i
    · subst hji
      simp only [if_true]
      have hll : (f.met[j] ++ [s]).length = f.met[j].length + 1 := by simp
      rw [hll, nats_append]
      have hmv : j < MV.length := by have := r4.1; omega
      exact ⟨A', c', by rw [List.getElem?_set_self hmv], ownsRow_setCell_other hr hng _, p1⟩
    · simp only [if_neg hji]
      obtain ⟨A9, c9, e10, e11, e12⟩ := e6 j hj'
      refine ⟨A9, c9, by rw [List.getElem?_set_ne (fun e => hji e.symm)]; exact e10, fown_block e11 fun q hq => hne q _ (e12 q hq) (fun e => hji (by injection e)) (by simp), fun q hq => hle _ _ (e12 q hq)⟩
  · refine Kb.set (w := W) (w' := W3) (S := fun k => own k ≠ none) ⟨hg.os, hg.tape, hg.output, hg.size, fun k hk hn => hg.block k hk fun e => hn (by rw [i3 k e.symm]; simp)⟩ (p := ⟨g, i, none⟩) (by show own g ≠ none; rw [hgr]; simp) _
end
end Go.Proofs.YtnkelhmjkmeilaaGreatDoor.H
end
