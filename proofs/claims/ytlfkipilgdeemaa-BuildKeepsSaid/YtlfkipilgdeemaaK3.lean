/- model.Closes and strainerref06.Closes: does a beginning close an open element? -/
import Derived.Test.YtlfkipilgdeemaaK2
import Derived.Test.YtlfkipilgdeemaaShelf
import Derived.Test.YtlfkipilgdeemaaWr1
import Derived.WideKeyArgs
import Derived.Maps.OwnOps
namespace Go.Proofs.Ytlfkipilgdeemaa
open Go.RowKit Go.Maps Go.WideMaps

/-- BLOCK b IS A MAP from names to rows of strings -/
def TabS (w : World) (b n : Nat) (tab : List (List UInt8 × Array Value)) : Prop := ∃ f, MapIs Try.prog 9 w b n f ∧ ∀ s : ByteArray,
  match tab.find? (fun p => p.1 == s.data.toList) with
  | none => f (.string s) = none
  | some p => ∃ g, g ≠ b ∧ f (.string s) = some (.slice (some ⟨g, 0, none⟩) p.2.size p.2.size) ∧ w.heap[g]? = some (.cells p.2 9 (0, 0))
section
variable {w w' : World} {b n : Nat} {tab : List (List UInt8 × Array Value)}
theorem TabS.made (w : World) : TabS (w.alloc (.map #[] 0)) w.heap.size 0 [] := ⟨_, MapIs.made _ _ w, fun s => rfl⟩
theorem TabS.lt (h : TabS w b n tab) : b < w.heap.size := by
  obtain ⟨f, h1, _⟩ := h
  exact h1.lt
theorem keyS : Keyed Try.prog 9 := string_keyed Try.underlying9
open Classical in
theorem wpList_tab {ops : Array Oper} {rest : List Oper} {o : Oper} {a : Act} {Q : Exit → Act → World → Prop} {e : Nat} (hg : o.guard = none) (m x v : Operand) (t : TypeId) (hop : o.op = Op.insert t m x v)
    (ht : Try.prog.underlying t = some (.map 9 e)) (hm : a.eval m = .map (some b)) (h : TabS w b n tab) (cs : Array Value) (k gN : Nat) (s : ByteArray) (hx : a.eval x = .string s) (hv : a.eval v = .slice (some ⟨gN, 0, none⟩) k k) (hk : cs.size = k) (hgN : gN = w.heap.size)
    (hs : s.size ≤ maxLen) (hnew : (tab.find? fun p => p.1 == s.data.toList) = none)
    (hK : ∀ w', TabS w' b (n + 1) (tab ++ [(s.data.toList, cs)]) → (w.alloc (.cells cs 9)).grownBy w' (some b) → wpList Try.prog ops Q rest (a.put o.dst undef) w') : wpList Try.prog ops Q (o :: rest) a (w.alloc (.cells cs 9)) := by
  subst hk hgN
  obtain ⟨f, h1, h2⟩ := h
  have hbl := h1.lt
  have e0 := h2 s
  rw [hnew] at e0
  simp only [] at e0
  refine wpList_mapset hg m x v t (.inr hop) keyS ht hm (h1.alloc _) _ _ (.string s.data.toList) hx hv (keyOf_string_mk Try.underlying9 hs) (fun y => if y = .string s then some (.slice (some ⟨w.heap.size, 0, none⟩) cs.size cs.size) else f y) (by simp) (fun y hy => by simp [hy]) fun w' hm' hg' => hK w' ⟨_, hm', fun s' => ?_⟩ hg'
  have hw : ∀ g c, g ≠ b → w.heap[g]? = some c → w'.heap[g]? = some c := fun g c hgb hc => by
    have hgl := (Array.getElem?_eq_some_iff.1 hc).1
    rw [hg'.block g (by simp; omega) (fun e => hgb (by injection e)), Below.heap_alloc w _ g hgl]
    exact hc
  rw [List.find?_append]
  by_cases hss : s' = s
  · subst hss
    rw [hnew]
    simp only [Option.none_or, List.find?_cons, beq_self_eq_true, if_true]
    refine ⟨w.heap.size, by omega, rfl, ?_⟩
    rw [hg'.block w.heap.size (by simp) (fun e => by injection e with e; omega)]
    exact heap_alloc_new w _
  · have hne : (s.data.toList == s'.data.toList) = false := by
      rw [beq_eq_false_iff_ne]
      intro e
      exact hss ((IsStr.of s').eq (IsStr.of s) e.symm)
    have e1 : ([(s.data.toList, cs)].find? fun p => p.1 == s'.data.toList) = none := by
      rw [List.find?_cons]
      simp only [hne, List.find?_nil]
    rw [e1, Option.or_none]
    have e2 := h2 s'
    have hs' : ¬ Value.string s' = Value.string s := fun e => hss (by injection e)
    cases hf : tab.find? (fun p => p.1 == s'.data.toList) with
    | none =>
      rw [hf] at e2
      simp only [] at e2 ⊢
      rw [if_neg hs']; exact e2
    | some p =>
      rw [hf] at e2
      simp only [] at e2 ⊢
      obtain ⟨g, g1, g2, g3⟩ := e2
      exact ⟨g, g1, by rw [if_neg hs']; exact g2, hw g _ g1 g3⟩
end
theorem below_map {b : Nat} {a w w' : World} (h : Below a.heap.size a w) (hg : w.grownBy w' (some b)) (hB : a.heap.size ≤ b) : Below a.heap.size a w' :=
  h.trans ⟨hg.os, hg.tape, hg.output, hg.size, fun k hk => hg.block k (by have := h.size; omega) (fun e => by injection e with e; omega)⟩

def closersV : List (List UInt8 × Array Value) := closersT.map fun p => (p.1, (p.2.map sv).toArray)
set_option maxHeartbeats 2000000 in
set_option maxRecDepth 100000 in
/-- model.closers -/
theorem closers_any (w : World) : Calls Try.prog 36 #[] w fun e w' => ∃ b, e = .returned (.map (some b)) ∧ TabS w' b 7 closersV ∧ Below w.heap.size w w' := by
  have hmm := @run_makeMap Try.prog
  go_enter Try.func36, Try.ntmps36
  have m0 := TabS.made w
  have b0 : Below w.heap.size w (w.alloc (.map #[] 0)) := (Below.refl _ w).alloc (Nat.le_refl _) _
  go_wp2_with (refine wpList_tab rfl _ _ _ _ rfl Try.underlying77 rfl m0 _ _ _ _ rfl rfl rfl (by simp) (by decide) rfl ?_; intro w1 m1 g1; replace b0 := below_map (b0.alloc b0.size (.cells _ _)) g1 (Nat.le_refl _); replace m0 := m1; clear g1 m1)
  go_ret
  exact ⟨_, rfl, m0, b0⟩
end Go.Proofs.Ytlfkipilgdeemaa
