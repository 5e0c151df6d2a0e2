/- slices.Reverse of trees. -/
import Derived.Test.YtbipdnnalhdoaaaHn
import Derived.Test.YtbipdnnalhdoaaaHc
namespace Go.Proofs.Ytbipdnnalhdoaaa
open Go.RowKit Go.Maps Go.WideMaps
attribute [local go_sem ↓] Go.wp_at_zero Go.wp_at_succ

def prC : List (Value × Value) → List Value
  | [] => []
  | p :: l => p.1 :: p.2 :: prC l
theorem prC_len : ∀ l : List (Value × Value), (prC l).length = l.length * 2
  | [] => rfl
  | p :: l => by rw [prC, List.length_cons, List.length_cons, prC_len l, List.length_cons]; omega
theorem prC_at : ∀ {l : List (Value × Value)} {k : Nat} {p : Value × Value}, l[k]? = some p → (prC l)[k * 2]? = some p.1 ∧ (prC l)[k * 2 + 1]? = some p.2
  | [], k, p, h => by simp at h
  | q :: l, 0, p, h => by simp at h; subst h; exact ⟨rfl, rfl⟩
  | q :: l, k + 1, p, h => by
    have := prC_at (l := l) (k := k) (p := p) (by simpa using h)
    rw [show (k + 1) * 2 = k * 2 + 1 + 1 by omega, prC]
    exact this
theorem prC_set : ∀ (l : List (Value × Value)) (k : Nat) (p : Value × Value), prC (l.set k p) = ((prC l).set (k * 2) p.1).set (k * 2 + 1) p.2
  | [], k, p => rfl
  | q :: l, 0, p => rfl
  | q :: l, k + 1, p => by
    rw [List.set_cons_succ, prC, prC, show (k + 1) * 2 = k * 2 + 1 + 1 by omega, List.set_cons_succ, List.set_cons_succ, List.set_cons_succ, List.set_cons_succ, prC_set l k p]
theorem prC_append (l m : List (Value × Value)) : prC (l ++ m) = prC l ++ prC m := by
  induction l with
  | nil => rfl
  | cons p l ih => rw [List.cons_append, prC, prC, ih]; rfl
/-- trees' cells, turned about -/
theorem trs_turn {w : World} {S : Nat → Prop} : ∀ {l : List Tr} {xs : List Value}, CsIsP w S (trsC l) xs → ∃ ps, xs = prC ps ∧ ps.length = l.length ∧ CsIsP w S (trsC l.reverse) (prC ps.reverse)
  | [], xs, h => by
    simp only [trsC, CsIsP] at h
    subst h
    exact ⟨[], rfl, rfl, CsIsP.nil w S⟩
  | t :: l, xs, h => by
    rw [trsC, trC_eq] at h
    simp only [List.cons_append, List.nil_append, CsIsP] at h
    obtain ⟨v1, ys, rfl, h1, v2, zs, rfl, h2, h3⟩ := h
    obtain ⟨ps, rfl, hl, h4⟩ := trs_turn h3
    refine ⟨(v1, v2) :: ps, rfl, by simp [hl], ?_⟩
    rw [List.reverse_cons, List.reverse_cons, prC_append, trsC_append]
    refine h4.append ?_
    rw [trsC, trC_eq, trsC]
    exact CsIsP.cons (by simpa only [CIsP] using h1) (CsIsP.cons (by simpa only [CIsP] using h2) (CsIsP.nil w S))

theorem own_setz {W : World} {base n c g i z : Nat} {e : TypeId} {xs : List Value} (h : W.ownsRow base e z (.slice (some ⟨g, 0, none⟩) n c) n xs) (v : Value) : (W.setCell ⟨g, i, none⟩ v).ownsRow base e z (.slice (some ⟨g, 0, none⟩) n c) n (xs.set i v) := by
  obtain ⟨l1, h1⟩ := h
  refine ⟨by rw [List.length_set]; exact l1, ?_⟩
  rcases h1 with ⟨e1, _⟩ | ⟨g', cap, cur, e1, hb, hg, hn, hm, hs, ht⟩
  · cases e1
  · injection e1 with e1 _ e3
    injection e1 with e1
    injection e1 with e1
    subst e1 e3
    refine .inr ⟨g, c, _, rfl, hb, heap_setCell_same W g i cur e v hg, hn, hm, by simp [hs], ?_⟩
    rw [Array.toList_setIfInBounds, ← ht, List.take_set]
theorem own_open {W : World} {base n c g z : Nat} {e : TypeId} {xs : List Value} (h : W.ownsRow base e z (.slice (some ⟨g, 0, none⟩) n c) n xs) :
    ∃ cur : Array Value, W.heap[g]? = some (.cells cur e (0, 0)) ∧ n ≤ c ∧ c ≤ maxLen ∧ cur.size = c * z ∧ base ≤ g ∧ ∀ (j : Nat) (u : Value), xs[j]? = some u → cur[j]? = some u := by
  rcases h.2 with ⟨e1, _⟩ | ⟨g', cap, cur, e1, hb, hg, hn, hm, hs, ht⟩
  · cases e1
  · injection e1 with e1 _ e3
    injection e1 with e1
    injection e1 with e1
    subst e1 e3
    refine ⟨cur, hg, hn, hm, hs, hb, fun j u hu => ?_⟩
    rw [← ht, List.getElem?_take] at hu
    split at hu
    · rw [← Array.getElem?_toList]; exact hu
    · cases hu
/-- turned about, i from either end -/
def RevI (ps : List (Value × Value)) (i : Nat) (cs : List (Value × Value)) : Prop := cs.length = ps.length ∧ ∀ k, k < ps.length → cs[k]? = if k < i ∨ ps.length ≤ k + i then ps[ps.length - 1 - k]? else ps[k]?
theorem RevI.zero (ps : List (Value × Value)) : RevI ps 0 ps := ⟨rfl, fun k hk => by rw [if_neg (by omega)]⟩
theorem RevI.step {ps cs : List (Value × Value)} {i j : Nat} (h : RevI ps i cs) (hij : i < j) (hn : i + j + 1 = ps.length) {p q : Value × Value} (hp : cs[i]? = some p) (hq : cs[j]? = some q) : RevI ps (i + 1) ((cs.set i q).set j p) := by
  obtain ⟨h1, h2⟩ := h
  refine ⟨by simp [h1], fun k hk => ?_⟩
  have hi := h2 i (by omega)
  have hj := h2 j (by omega)
  rw [if_neg (by omega)] at hi hj
  rw [List.getElem?_set, List.getElem?_set, List.length_set, h1]
  by_cases e1 : j = k
  · subst e1
    rw [if_pos rfl, if_pos (by omega), if_pos (by omega), ← hp, hi]
    congr 1
    omega
  · rw [if_neg e1]
    by_cases e2 : i = k
    · subst e2
      rw [if_pos rfl, if_pos (by omega), if_pos (by omega), ← hq, hj]
      congr 1
      omega
    · rw [if_neg e2, h2 k hk]
      by_cases e3 : k < i ∨ ps.length ≤ k + i
      · rw [if_pos e3, if_pos (by omega)]
      · rw [if_neg e3, if_neg (by omega)]
theorem RevI.done {ps cs : List (Value × Value)} {i : Nat} (h : RevI ps i cs) (hi : ps.length ≤ 2 * i + 1) : cs = ps.reverse := by
  obtain ⟨h1, h2⟩ := h
  apply List.ext_getElem?
  intro k
  by_cases hk : k < ps.length
  · rw [h2 k hk, List.getElem?_reverse hk]
    split
    · rfl
    · rename_i h9
      congr 1
      omega
  · rw [List.getElem?_eq_none (by omega), List.getElem?_eq_none (by simp; omega)]

set_option maxHeartbeats 2000000 in
set_option maxRecDepth 100000 in
theorem reverse_any {w : World} {base n c : Nat} {A : Option Addr} {ps : List (Value × Value)} (h : w.ownsRow base 38 2 (.slice A n c) n (prC ps)) (hn : n ≤ 1000000000000) (h1 : ∀ p ∈ ps, ∃ a A n c, p = (.int .i64 a, .slice A n c)) :
    Calls Try.prog 53 #[.slice A n c] w fun e w' => e = .returned (.tuple #[]) ∧ w'.ownsRow base 38 2 (.slice A n c) n (prC ps.reverse) ∧ w.grownBy w' (Value.slice A n c).ownBlock := by
  have hlen : ps.length = n := by have := h.1; rw [prC_len] at this; omega
  go_enter Try.func53, Try.ntmps53
  have H := Lib.hid h
  have H1 := Lib.hid h1
  have HL := Lib.hid hlen
  clear h h1 hlen
  go_wp2
  go_loopw [2, 3] (fun iv jv wr => ∃ (i : Nat) (j : Int) (cs : List (Value × Value)), iv = .int .i64 i ∧ jv = .int .i64 j ∧ (i : Int) + j + 1 = n ∧ 2 * i ≤ n ∧ Hid (RevI ps i cs) ∧ wr.ownsRow base 38 2 (.slice A n c) n (prC cs) ∧ w.grownBy wr (Value.slice A n c).ownBlock) (fun iv _ wr => n - (intOf iv).toNat)
  case atStart => exact ⟨0, _, ps, rfl, rfl, by omega, by omega, RevI.zero ps, H.out, grown_refl _ _⟩
  case round =>
    obtain ⟨i, j', cs, rfl, rfl, hij, hi2, hR, hO, hG⟩ := hrel
    by_cases hlt : (i : Int) < j'
    · obtain ⟨j, rfl⟩ : ∃ j : Nat, j' = (j : Int) := ⟨j'.toNat, by omega⟩
      have hlen := HL.out
      have hcl := hR.out.1
      obtain ⟨g, rfl⟩ : ∃ g, A = some ⟨g, 0, none⟩ := by
        rcases hO.2 with ⟨hv, _⟩ | ⟨g, cap, cur, hv, _⟩
        · injection hv with _ hv _; omega
        · injection hv with hv; exact ⟨g, hv⟩
      obtain ⟨p, hp⟩ : ∃ p, cs[i]? = some p := ⟨cs[i]'(by omega), List.getElem?_eq_getElem _⟩
      obtain ⟨q, hq⟩ : ∃ q, cs[j]? = some q := ⟨cs[j]'(by omega), List.getElem?_eq_getElem _⟩
      obtain ⟨cur, o1, o2, o3, o4, o5, o6⟩ := own_open hO
      obtain ⟨p0, p1⟩ := prC_at hp
      obtain ⟨q0, q1⟩ := prC_at hq
      have i0 := (Lib.cell_of_heap o1 (i * 2)).trans (o6 _ _ p0)
      have i1 := (Lib.cell_of_heap o1 (i * 2 + 1)).trans (o6 _ _ p1)
      have j0 := (Lib.cell_of_heap o1 (j * 2)).trans (o6 _ _ q0)
      have j1 := (Lib.cell_of_heap o1 (j * 2 + 1)).trans (o6 _ _ q1)
      have fi0 := Lib.frozen_of_heap o1 (i * 2)
      have fi1 := Lib.frozen_of_heap o1 (i * 2 + 1)
      have fj0 := Lib.frozen_of_heap o1 (j * 2)
      have fj1 := Lib.frozen_of_heap o1 (j * 2 + 1)
      obtain ⟨u0, k0⟩ := cell_set_some (w := wr) (p := ⟨g, i * 2, none⟩) (v := q.1) (by rw [j0]; rfl)
      obtain ⟨u1, k1⟩ := cell_set_some (w := wr.setCell ⟨g, i * 2, none⟩ q.1) (p := ⟨g, i * 2 + 1, none⟩) (v := q.2) (some_set (p := ⟨g, i * 2, none⟩) (v := q.1) (by rw [j1]; rfl))
      have hpm : p ∈ ps := by
        have := hR.out.2 i (by omega)
        rw [if_neg (by omega), hp] at this
        exact List.mem_of_getElem? this.symm
      have hqm : q ∈ ps := by
        have := hR.out.2 j (by omega)
        rw [if_neg (by omega), hq] at this
        exact List.mem_of_getElem? this.symm
      obtain ⟨pl, pA, pn, pc, hpe⟩ := H1.out p hpm
      obtain ⟨ql, qA, qn, qc, hqe⟩ := H1.out q hqm
      clear hpm hqm
      have hRS := hR.out.step (by omega) (by omega) hp hq
      have hO2 := (((own_setz hO (i := i * 2) q.1) |> (own_setz (i := i * 2 + 1) · q.2)) |> (own_setz (i := j * 2) · p.1)) |> (own_setz (i := j * 2 + 1) · p.2)
      have hce : ((((prC cs).set (i * 2) q.1).set (i * 2 + 1) q.2).set (j * 2) p.1).set (j * 2 + 1) p.2 = prC ((cs.set i q).set j p) := by rw [prC_set, prC_set]
      rw [hce] at hO2
      have hG2 := grown_trans hG (show wr.grownBy ((((wr.setCell ⟨g, i * 2, none⟩ q.1).setCell ⟨g, i * 2 + 1, none⟩ q.2).setCell ⟨g, j * 2, none⟩ p.1).setCell ⟨g, j * 2 + 1, none⟩ p.2) (some g) from
        ⟨rfl, rfl, rfl, by simp only [size_set]; exact Nat.le_refl _, fun k _ hk => by
          have hne : k ≠ g := fun e => hk (by rw [e])
          rw [heap_set_other (p := ⟨g, j * 2 + 1, none⟩) hne, heap_set_other (p := ⟨g, j * 2, none⟩) hne, heap_set_other (p := ⟨g, i * 2 + 1, none⟩) hne, heap_set_other (p := ⟨g, i * 2, none⟩) hne]⟩)
      have HO2 := Lib.hid hO2
      have HG2 := Lib.hid hG2
      have HR2 := Lib.hid hRS
      have hiI : (i : Int) < (n : Int) := by omega
      have hjI : (j : Int) < (n : Int) := by omega
      have hi0 : (0 : Int) ≤ (i : Int) := by omega
      have hj0 : (0 : Int) ≤ (j : Int) := by omega
      clear hR hO hG hRS hO2 hG2 hce o1 o2 o3 o4 o5 o6 p0 p1 q0 q1 hp hq hcl hlen
      subst hpe hqe
      simp only at i0 i1 j0 j1 k0 k1 HO2 HG2
      go_wp2
      go_region
      all_goals
        go_wp2
        refine ⟨⟨i + 1, (j : Int) - 1, _, by go_num, rfl, by omega, by omega, HR2.out, HO2.out.drew, grown_drew HG2.out⟩, ?_⟩
        simp [intOf]
        omega
    · have HE := Lib.hid (hR.out.done (by have := HL.out; omega))
      have hlt' : ¬ (i : Int) < j' := hlt
      have HO := Lib.hid hO
      have HG := Lib.hid hG
      clear hO hG hij
      go_wp2
      refine bodyPost_end (results_none rfl _ _ _) rfl ⟨rfl, by rw [← HE.out]; exact HO.out, HG.out⟩
end Go.Proofs.Ytbipdnnalhdoaaa
