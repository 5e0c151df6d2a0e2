/- model.Closes and strainerref06.Closes: does a beginning close an open element? model.Closes and strainerref06.Closes. The package build: New, place, add, shut. The package build: shut. A map's entry less. The package build: remark, chars. -/
import Derived.Deep.DeepCutAuto
import Derived.Maps.OwnOps
import Derived.Maps.OwnSet
import Derived.WideKeyArgs
import Derived.Test.YtnkelhmjkmeilaaGreatDoorT03
import Derived.Test.YtnkelhmjkmeilaaGreatDoorT05
import Derived.Test.YtnkelhmjkmeilaaGreatDoorT32
section
namespace Go.Proofs.YtnkelhmjkmeilaaGreatDoor.K
open Go.RowKit Go.Maps Go.WideMaps
def TabS (w : World) (b n : Nat) (tab : List (List UInt8 × Array Value)) : Prop := ∃ f, MapIs Tryz.prog 9 w b n f ∧ ∀ s : ByteArray,
  match tab.find? (fun p => p.1 == s.data.toList) with
  | none => f (.string s) = none
  | some p => ∃ g, g ≠ b ∧ f (.string s) = some (.slice (some ⟨g, 0, none⟩) p.2.size p.2.size) ∧ w.heap[g]? = some (.cells p.2 9 (0, 0))
section
variable {w w' : World} {b n : Nat} {tab : List (List UInt8 × Array Value)}
theorem TabS.made (w : World) : TabS (w.alloc (.map #[] 0)) w.heap.size 0 [] := ⟨_, MapIs.made _ _ w, fun _s => rfl⟩
theorem TabS.lt (h : TabS w b n tab) : b < w.heap.size := by
  obtain ⟨f, h1, _⟩ := h
  exact h1.lt
theorem keyS : Keyed Tryz.prog 9 := string_keyed Tryz.underlying9
open Classical in
theorem wpList_tab {ops : Array Oper} {rest : List Oper} {o : Oper} {a : Act} {Q : Exit → Act → World → Prop} {e : Nat} (hg : o.guard = none) (m x v : Operand) (t : TypeId) (hop : o.op = Op.insert t m x v)
    (ht : Tryz.prog.underlying t = some (.map 9 e)) (hm : a.eval m = .map (some b)) (h : TabS w b n tab) (cs : Array Value) (k gN : Nat) (s : ByteArray) (hx : a.eval x = .string s) (hv : a.eval v = .slice (some ⟨gN, 0, none⟩) k k) (hk : cs.size = k) (hgN : gN = w.heap.size)
    (hs : s.size ≤ maxLen) (hnew : (tab.find? fun p => p.1 == s.data.toList) = none)
    (hK : ∀ w', TabS w' b (n + 1) (tab ++ [(s.data.toList, cs)]) → (w.alloc (.cells cs 9)).grownBy w' (some b) → wpList Tryz.prog ops Q rest (a.put o.dst undef) w') : wpList Tryz.prog ops Q (o :: rest) a (w.alloc (.cells cs 9)) := by
  subst hk hgN
  obtain ⟨f, h1, h2⟩ := h
  have hbl := h1.lt
  have e0 := h2 s
  rw [hnew] at e0
  simp only [] at e0
  refine wpList_mapset hg m x v t (.inr hop) keyS ht hm (h1.alloc _) _ _ (.string s.data.toList) hx hv (keyOf_string_mk Tryz.underlying9 hs) (fun y => if y = .string s then some (.slice (some ⟨w.heap.size, 0, none⟩) cs.size cs.size) else f y) (by simp) (fun y hy => by simp [hy]) fun w' hm' hg' => hK w' ⟨_, hm', fun s' => ?_⟩ hg'
  have hw : ∀ g c, g ≠ b → w.heap[g]? = some c → w'.heap[g]? = some c := fun g c hgb hc => by
    have hgl := (Array.getElem?_eq_some_iff.1 hc).1
    rw [hg'.block g (by simp; omega) (fun e => hgb (by injection e)), Below.heap_alloc w _ g hgl]
    exact hc
  rw [List.find?_append]
  by_cases hss : s' = s
  · subst hss
    rw [hnew]
    simp only [Option.none_or, List.find?_cons, beq_self_eq_true, if_true]
    refine ⟨w.heap.size, by omega, rfl, ?_⟩
    rw [hg'.block w.heap.size (by simp) (fun e => by injection e with e; omega)]
    exact heap_alloc_new w _
  · have hne : (s.data.toList == s'.data.toList) = false := by
      rw [beq_eq_false_iff_ne]
      intro e
      exact hss ((IsStr.of s').eq (IsStr.of s) e.symm)
    have e1 : ([(s.data.toList, cs)].find? fun p => p.1 == s'.data.toList) = none := by
      rw [List.find?_cons]
      simp only [hne, List.find?_nil]
    rw [e1, Option.or_none]
    have e2 := h2 s'
    have hs' : ¬ Value.string s' = Value.string s := fun e => hss (by injection e)
    cases hf : tab.find? (fun p => p.1 == s'.data.toList) with
    | none =>
      rw [hf] at e2
      simp only [] at e2 ⊢
      rw [if_neg hs']; exact e2
    | some p =>
      rw [hf] at e2
      simp only [] at e2 ⊢
      obtain ⟨g, g1, g2, g3⟩ := e2
      exact ⟨g, g1, by rw [if_neg hs']; exact g2, hw g _ g1 g3⟩
end
theorem below_map {b : Nat} {a w w' : World} (h : Below a.heap.size a w) (hg : w.grownBy w' (some b)) (hB : a.heap.size ≤ b) : Below a.heap.size a w' :=
  h.trans ⟨hg.os, hg.tape, hg.output, hg.size, fun k hk => hg.block k (by have := h.size; omega) (fun e => by injection e with e; omega)⟩
def closersV : List (List UInt8 × Array Value) := closersT.map fun p => (p.1, (p.2.map sv).toArray)
set_option maxHeartbeats 2000000 in
set_option maxRecDepth 100000 in
theorem closers_any (w : World) : Calls Tryz.prog 124 #[] w fun e w' => ∃ b, e = .returned (.map (some b)) ∧ TabS w' b 7 closersV ∧ Below w.heap.size w w' := by
  have hmm := @run_makeMap Tryz.prog
  go_enter Tryz.func124, Tryz.ntmps124
  have m0 := TabS.made w
  have b0 : Below w.heap.size w (w.alloc (.map #[] 0)) := (Below.refl _ w).alloc (Nat.le_refl _) _
  go_wp2_with (refine wpList_tab rfl _ _ _ _ rfl Tryz.underlying214 rfl m0 _ _ _ _ rfl rfl rfl (by simp) (by decide) rfl ?_; intro w1 m1 g1; replace b0 := below_map (b0.alloc b0.size (.cells _ _)) g1 (Nat.le_refl _); replace m0 := m1; clear g1 m1)
  go_ret
  exact ⟨_, rfl, m0, b0⟩
end Go.Proofs.YtnkelhmjkmeilaaGreatDoor.K
end
section
namespace Go.Proofs.YtnkelhmjkmeilaaGreatDoor.K
open Go.RowKit Go.Maps Go.WideMaps
theorem closers_find (s : List UInt8) : closersV.find? (fun p => p.1 == s) = (closersT.find? fun p => p.1 == s).map fun p => (p.1, (p.2.map sv).toArray) := by
  rw [closersV, List.find?_map]
  rfl
theorem contains_bytes (l : List (List UInt8)) (b : List UInt8) : Lib.containsS (l.map fun x => (⟨x.toArray⟩ : ByteArray)) ⟨b.toArray⟩ = l.contains b := by
  rw [Bool.eq_iff_iff, Lib.containsS_iff, List.contains_iff_mem, List.mem_map]
  constructor
  · rintro ⟨x, hx, e⟩
    have : x = b := (IsStr.mk x).symm.trans ((congrArg (fun t : ByteArray => t.data.toList) e).trans (IsStr.mk b))
    rw [← this]; exact hx
  · intro h
    exact ⟨b, h, rfl⟩
theorem add_zero_off (b k : Nat) : (⟨b, 0, none⟩ : Addr).add k = ⟨b, k, none⟩ := by
  unfold Addr.add
  split
  · rename_i h; subst h; rfl
  · simp
theorem mCloses_any (o b : List UInt8) (ho : o.length ≤ 1000000) (w : World) : Calls Tryz.prog 92 #[.string ⟨o.toArray⟩, .string ⟨b.toArray⟩] w fun e w' => e = .returned (.bool (closesL o b)) ∧ Below w.heap.size w w' := by
  have hkey : keyOf Tryz.prog 9 (.string ⟨o.toArray⟩) = some (.string o) := keyOf_string_mk Tryz.underlying9 (by unfold maxLen; show o.toArray.size ≤ _; simp; omega)
  have hz : ∀ w, (zeroValue 72).run Tryz.prog w = .ok (.slice none 0 0) w := fun w => by kernel_rfl
  have HK := Lib.hid hkey
  clear hkey
  go_enter Tryz.func92, Tryz.ntmps92
  go_wp2_with fail
  refine (closers_any w).mono ?_
  rintro e W1 ⟨m, rfl, ⟨f, m1, h1⟩, b1⟩
  have hlook := m1.look keyS Tryz.underlying214 (hz _) HK.out false
  have h2 := h1 ⟨o.toArray⟩
  rw [show (⟨o.toArray⟩ : ByteArray).data.toList = o from rfl, closers_find] at h2
  cases hf : closersT.find? (fun p => p.1 == o) with
  | none =>
    rw [hf] at h2
    simp only [Option.map_none] at h2
    rw [h2] at hlook
    have HR := Lib.hid (show closesL o b = false by simp only [closesL, closesRow, hf]; rfl)
    simp only [] at hlook
    clear hf h1 h2 m1
    go_wp2_with fail
    refine (Tryz.slices_Contains_string_empty _ _ _ _).mono ?_
    rintro e W2 ⟨rfl, rfl⟩
    go_wp2
    go_ret
    exact ⟨ret_bool HR.out.symm, b1⟩
  | some p =>
    rw [hf] at h2
    simp only [Option.map_some] at h2
    obtain ⟨g, hgm, h3, h4⟩ := h2
    rw [h3] at hlook
    have HR := Lib.hid (show closesL o b = p.2.contains b by simp only [closesL, closesRow, hf]; rfl)
    have hsz : (p.2.map sv).toArray.size = p.2.length := by simp
    rw [hsz] at hlook
    have hm : p ∈ closersT := List.mem_of_find?_eq_some hf
    have hp : p.2.length ≤ 11 := (by decide : ∀ p ∈ closersT, p.2.length ≤ 11) p hm
    simp only [] at hlook
    clear hf h1 h3 m1 hsz hm
    have hc : ∀ j, j < (p.2.map fun x => (⟨x.toArray⟩ : ByteArray)).length → W1.cell? ⟨g, 0 + j, none⟩ = some (.string ((p.2.map fun x => (⟨x.toArray⟩ : ByteArray)).getD j ByteArray.empty)) := by
      intro j hj
      rw [Lib.cell_of_heap h4, Nat.zero_add]
      simp only [List.length_map] at hj
      simp [sv, hj]
    have HC := Lib.hid hc
    clear hc h4
    go_wp2_with fail
    refine (Tryz.slices_Contains_string g 0 p.2.length p.2.length (p.2.map fun x => (⟨x.toArray⟩ : ByteArray)) ⟨b.toArray⟩ W1 (by simp) (by omega) HC.out).mono ?_
    rintro e W2 ⟨rfl, rfl⟩
    rw [List.take_of_length_le (by simp), contains_bytes]
    go_wp2
    go_ret
    exact ⟨ret_bool (by rw [HR.out]; simp), b1⟩
end Go.Proofs.YtnkelhmjkmeilaaGreatDoor.K
end
section
namespace Go.Proofs.YtnkelhmjkmeilaaGreatDoor.K
open Go.RowKit Go.Maps Go.WideMaps
theorem ptr_row_info : (Tryz.prog.info? 480).map (fun i => (i.zero, i.size, i.bytes)) = some (some (.pointer none), 1, 8) := by kernel_rfl
theorem rowPt : Row Tryz.prog 469 480 1 8 := by
  obtain ⟨i, hi, hz, h1, h2⟩ := info_parts ptr_row_info
  exact ⟨Tryz.underlying469, ⟨i, _, hi, hz, h1, h2, rfl⟩, by decide⟩
def cntF (fs : Frs) (v : Value) : Option Value := match v with
  | .string s => if cntN s.data.toList fs = 0 then none else some (.int .i64 (cntN s.data.toList fs))
  | _ => none
theorem cntF_nil : cntF [] = fun _ => none := by
  funext v
  cases v <;> rfl
set_option maxRecDepth 100000 in
theorem New_any (w : World) : Calls Tryz.prog 350 #[] w fun e w' => e = .returned (.pointer (some ⟨w.heap.size + 1, 0, none⟩)) ∧ Below w.heap.size w w' ∧
    ∃ own, MI w' own w.heap.size (w.heap.size + 1) w.heap.size 0 (fun _ => none) [] [] (cntF []) := by
  have hmm := @run_makeMap Tryz.prog
  go_enter Tryz.func350, Tryz.ntmps350
  go_wp2
  go_ret
  refine ⟨rfl, ((Below.refl _ w).alloc (Nat.le_refl _) _).alloc (by simp) _, fun q => if q = w.heap.size then some .cnt else if q = w.heap.size + 1 then some .me else none, ?_⟩
  refine ⟨?_, by simp, by simp, ⟨.slice none 0 0, .slice none 0 0, ?_, ⟨World.ownsRow_nil _ _ _ _, fun q hq => by simp [Value.ownBlock] at hq⟩, ⟨World.ownsRow_nil _ _ _ _, fun q hq => by simp [Value.ownBlock] at hq⟩⟩, ⟨0, ?_⟩, fun b r hb => by simp at hb, Nat.le_refl _, Nat.le_refl _⟩
  · intro q r hq
    change (if q = w.heap.size then some Role.cnt else if q = w.heap.size + 1 then some Role.me else none) = some r at hq
    simp only [World.size_alloc]
    split at hq
    · omega
    · split at hq
      · omega
      · cases hq
  · have := heap_alloc_new (w.alloc (.map #[] 0)) (.cells #[.slice none 0 0, .slice none 0 0, .map (some w.heap.size)] 471)
    simpa using this
  · rw [cntF_nil]
    exact (MapIs.made Tryz.prog 9 w).alloc _
set_option maxRecDepth 100000 in
theorem place_any {w : World} {own : Own} {base bb mm N : Nat} {g : Sto} {outs opens : List Nat} {f : Value → Option Value} (h : MI w own base bb mm N g outs opens f) (hN : N ≤ 10000) :
    Calls Tryz.prog 360 #[.pointer (some ⟨bb, 0, none⟩)] w fun e w' => e = .returned (.pointer (some (plAddr bb opens))) ∧ Below w.heap.size w w' := by
  cases opens with
  | nil =>
    obtain ⟨h1, h2, h3, ⟨OV, PV, h4, h5, h6⟩, ⟨nm, h7⟩, h8, h9, h10⟩ := h
    obtain ⟨A, c, rfl, hc⟩ := own_shape h6.row
    have c1 := Lib.cell_of_heap h4 1
    simp only [List.getElem?_toArray, List.getElem?_cons_zero, List.getElem?_cons_succ, List.length_nil] at c1
    go_enter Tryz.func360, Tryz.ntmps360
    go_wp2
    go_ret
    exact ⟨rfl, Below.refl _ _⟩
  | cons b bs =>
    have hlen := h.fewP
    obtain ⟨A, n, c, c1, hn, hnc, hcm, c2, c3, _, _⟩ := h.pop
    simp only [List.length_cons] at hlen
    have hn1 : n ≤ 10000 := by omega
    clear hn hlen h
    go_enter Tryz.func360, Tryz.ntmps360
    go_wp2
    go_region
    go_wp2
    go_ret
    exact ⟨rfl, (Below.refl _ _).drew⟩
theorem grown_cell {w w' : World} {row : Option Nat} (hg : w.grownBy w' row) {a : Addr} (hl : a.block < w.heap.size) (hn : some a.block ≠ row) : w'.cell? a = w.cell? a ∧ w'.frozen? a = w.frozen? a :=
  ⟨World.cell?_of_block (hg.block a.block hl hn), World.frozen?_of_block (hg.block a.block hl hn)⟩
set_option maxRecDepth 100000 in
theorem add_any {w : World} {own : Own} {base bb mm N : Nat} {g : Sto} {outs opens : List Nat} {f : Value → Option Value} (h : MI w own base bb mm N g outs opens f) (hp : ∀ p bs, opens = p :: bs → ∃ r, g p = some r) (hN : N ≤ 10000) (x : Nat) :
    Calls Tryz.prog 359 #[.pointer (some ⟨bb, 0, none⟩), .pointer (some ⟨x, 0, none⟩)] w fun e w' => e = .returned (.tuple #[]) ∧ Below base w w' ∧ Frm own w w' ∧
      ∃ own', Own.Le own own' ∧ MI w' own' base bb mm (N + 1) (addKid g opens x) (addOut outs opens x) opens f := by
  go_enter Tryz.func359, Tryz.ntmps359
  go_wp2_with fail
  refine (place_any h hN).mono ?_
  rintro e W1 ⟨rfl, b1⟩
  have hbase := (h.lt bb _ h.me)
  have h1 := h.below b1 (Nat.le_refl _)
  have B1 : Below base w W1 := b1.mono (by omega)
  obtain ⟨V, k1, k2, k3, k4, k5, k6, k7, k9, k8⟩ := h1.place hp
  have F1 : Frm own w W1 := Frm.of_below b1
  have hS1 := b1.size
  have hW : base ≤ W1.heap.size := by omega
  clear h h1 b1 hbase
  generalize plAddr bb opens = a at *
  obtain ⟨A, c, rfl, hc⟩ := own_shape k3
  go_wp2_with (at_builtin; refine wpList_push_at rfl _ _ _ rfl base rowPt A _ c _ rfl k3 [.pointer (some ⟨x, 0, none⟩)] _ rfl rfl (by simp [Value.oneCell']) (by unfold maxLen; omega) (by omega) hW ?_)
  intro A' c' w2 hc' hown hg hat
  obtain ⟨g1, g2⟩ := grown_cell hg k6 k4
  rw [k1] at g1
  rw [k2] at g2
  have hres := k8 w2 _ x hg hown hat
  have B2 : Below base W1 w2 := (Below.refl _ _).grown hg hW (own_ge k3)
  have B3 := B1.trans B2
  have F2 : ∀ u, Frm own w (w2.setCell a u) := fun u => F1.trans hS1 (fun q hq hl => by
    rw [heap_setCell_other (p := a) (fun e => k9.1 (e ▸ hq))]
    exact hg.block q hl (fun e => k9.2 q e.symm hq))
  clear hown hat hg k1 k2 k8 k9 B1 B2 F1
  go_wp2
  go_end0
  exact ⟨rfl, B3.setCell k7 _, F2 _, hres⟩
end Go.Proofs.YtnkelhmjkmeilaaGreatDoor.K
end
section
namespace Go.Proofs.YtnkelhmjkmeilaaGreatDoor.K
open Go.RowKit Go.Maps Go.WideMaps
open Go.ChangeMaps (setBlock heap_setBlock_same heap_setBlock_other modify_eq_set)
section
variable {P : Program} {k : TypeId} {w w' : World} {b n : Nat} {f : Value → Option Value}
theorem _root_.Go.Proofs.YtnkelhmjkmeilaaGreatDoor.MapIs.del (h : MapIs P k w b n f) (K : Keyed P k) {t e : TypeId} (ht : P.underlying t = some (.map k e)) {key : Value} {kl : Lit} (hkey : keyOf P k key = some kl) {f' : Value → Option Value} (g1 : f' key = none) (g2 : ∀ x, x ≠ key → f' x = f x) (ty : TypeId) :
    ∃ w', (Builtin.delete_ #[t, k] ty #[.map (some b), key]).run P w = .ok (.tuple #[]) w' ∧ MapIs P k w' b n f' ∧ w.grownBy w' (some b) := by
  obtain ⟨es, clock, hb, hn, hk, hd, h1, h2⟩ := h
  have hgrow : ∀ o, w.grownBy (setBlock w b o) (some b) := fun o => ⟨rfl, rfl, rfl, by simp [setBlock], fun i _ hi => heap_setBlock_other hb _ (fun e => hi (by rw [e]))⟩
  rcases K.find w hkey es.toList hk with ⟨hf, hne⟩ | ⟨j, e0, hf, hj, he⟩
  · refine ⟨setBlock w b (.map es clock), ?_, ⟨es, clock, heap_setBlock_same hb _, hn, hk, hd, ?_, ?_⟩, hgrow _⟩
    · simp [Builtin.delete_, run_underlying ht, MapKept.run_getObj_map hb, K.check w _ hkey, hf, MapKept.run_setObj_map _ hb, Result.andThen, setBlock]
    · intro x hx
      rw [g2 _ (hne x hx)]; exact h1 x hx
    · intro x v hx
      by_cases hxk : x = key
      · subst hxk; rw [g1] at hx; cases hx
      · rw [g2 x hxk] at hx; exact h2 x v hx
  · have hjl : j < es.toList.length := (List.getElem?_eq_some_iff.1 hj).1
    have hlist : (es.eraseIdxIfInBounds j).toList = es.toList.eraseIdx j := by simp
    have hother : ∀ i x, es.toList[i]? = some x → i ≠ j → x.key ≠ key := by
      intro i x hx hij e1
      have hil := (List.getElem?_eq_some_iff.1 hx).1
      rw [List.getElem?_eq_getElem hil] at hx
      rw [List.getElem?_eq_getElem hjl] at hj
      have hx' := Option.some.inj hx
      have hj'' := Option.some.inj hj
      rcases Nat.lt_or_gt_of_ne hij with h | h
      · exact (List.pairwise_iff_getElem.1 hd i j hil hjl h) (by rw [hx', hj'', e1, he])
      · exact (List.pairwise_iff_getElem.1 hd j i hjl hil h) (by rw [hx', hj'', e1, he])
    refine ⟨setBlock w b (.map (es.eraseIdxIfInBounds j) clock), ?_, ⟨es.eraseIdxIfInBounds j, clock, heap_setBlock_same hb _, ?_, ?_, ?_, ?_, ?_⟩, hgrow _⟩
    · simp [Builtin.delete_, run_underlying ht, MapKept.run_getObj_map hb, K.check w _ hkey, hf, MapKept.run_setObj_map _ hb, Result.andThen, setBlock]
    · have : (es.eraseIdxIfInBounds j).toList.length ≤ es.toList.length := by rw [hlist]; exact (List.eraseIdx_sublist _ _).length_le
      simp only [Array.length_toList] at this
      omega
    · intro x hx
      rw [hlist] at hx
      exact hk x (List.mem_of_mem_eraseIdx hx)
    · rw [hlist]
      exact hd.sublist (List.eraseIdx_sublist _ _)
    · intro x hx
      rw [hlist] at hx
      obtain ⟨i, hi, hx2⟩ := List.mem_eraseIdx_iff_getElem?.1 hx
      rw [g2 _ (hother i x hx2 hi)]
      exact h1 x (List.mem_of_getElem? hx2)
    · intro x v hx
      rw [hlist]
      by_cases hxk : x = key
      · subst hxk; rw [g1] at hx; cases hx
      · rw [g2 x hxk] at hx
        obtain ⟨e, hm, h3, h4⟩ := h2 x v hx
        obtain ⟨i, hi⟩ := List.mem_iff_getElem?.1 hm
        refine ⟨e, List.mem_eraseIdx_iff_getElem?.2 ⟨i, ?_, hi⟩, h3, h4⟩
        rintro rfl
        rw [hj] at hi
        have := Option.some.inj hi
        subst this
        exact hxk (h3.symm.trans he)
theorem wpList_mapdel {ops : Array Oper} {rest : List Oper} {o : Oper} {a : Act} {Q : Exit → Act → World → Prop} (hg : o.guard = none) (m x : Operand) (t : TypeId) (hop : o.op = Op.call { callee := Callee.builtin Builtin.delete, args := #[m, x], argTypes := #[t, k] })
    {e : TypeId} (K : Keyed P k) (ht : P.underlying t = some (.map k e)) (hm : a.eval m = .map (some b)) (h : MapIs P k w b n f) (key : Value) (kl : Lit) (hx : a.eval x = key) (hkey : keyOf P k key = some kl)
    (f' : Value → Option Value) (g1 : f' key = none) (g2 : ∀ x, x ≠ key → f' x = f x) (hK : ∀ w', MapIs P k w' b n f' → w.grownBy w' (some b) → wpList P ops Q rest (a.put o.dst (.tuple #[])) w') :
    wpList P ops Q (o :: rest) a w := by
  refine wpList_plain hg fun K' hK' => ?_
  obtain ⟨w', hrun, r1, r2⟩ := h.del K ht hkey g1 g2 o.type
  unfold Oper.wp
  simp [execOp, hop, resolve, invoke, builtin, hm, hx, hrun, Result.andThen]
  exact hK' _ _ (hK w' r1 r2)
end
def upF (f : Value → Option Value) (l : List UInt8) (v : Value) (y : Value) : Option Value := match y with
  | .string s => if s.data.toList = l then some v else f y
  | _ => f y
theorem upF_new (f : Value → Option Value) (l : List UInt8) (v : Value) : upF f l v (.string ⟨l.toArray⟩) = some v := by simp [upF]
theorem upF_old (f : Value → Option Value) (l : List UInt8) (v y : Value) (h : y ≠ .string ⟨l.toArray⟩) : upF f l v y = f y := by
  unfold upF
  split
  · rename_i s
    rw [if_neg]
    intro e
    exact h (by rw [(show IsStr s l from e).to])
  · rfl
set_option maxHeartbeats 2000000 in
set_option maxRecDepth 100000 in
theorem shut_any {w : World} {own : Own} {base bb mm N : Nat} {g : Sto} {outs bs : List Nat} {b : Nat} {f : Value → Option Value} (h : MI w own base bb mm N g outs (b :: bs) f) {r : Rc} (hr : g b = some r) (hN : N ≤ 10000)
    {c : Nat} (hc : c ≤ 1000000) (hf : f (.string ⟨r.name.toArray⟩) = some (.int .i64 ((c : Int) + 1))) {f' : Value → Option Value} (g1 : f' (.string ⟨r.name.toArray⟩) = if c = 0 then none else some (.int .i64 c)) (g2 : ∀ y, y ≠ .string ⟨r.name.toArray⟩ → f' y = f y) :
    Calls Tryz.prog 358 #[.pointer (some ⟨bb, 0, none⟩)] w fun e w' => e = .returned (.string ⟨r.name.toArray⟩) ∧ Below base w w' ∧ Frm own w w' ∧ MI w' own base bb mm N g outs bs f' := by
  have hnm := (h.recs b r hr).nm
  obtain ⟨A0, n0, c0, TV, KV, hrec, _⟩ := (h.recs b r hr).cells
  have hcn := Lib.cell_of_heap hrec 1
  simp only [List.getElem?_toArray, List.getElem?_cons_zero, List.getElem?_cons_succ, sv] at hcn
  have hkey : keyOf Tryz.prog 9 (.string ⟨r.name.toArray⟩) = some (.string r.name) := keyOf_string_mk Tryz.underlying9 (by unfold maxLen; show r.name.toArray.size ≤ _; simp; omega)
  have hz : ∀ w, (zeroValue 3).run Tryz.prog w = .ok (.int .i64 0) w := fun w => by kernel_rfl
  have hlen := h.fewP
  have hb0 := (h.lt bb _ h.me).1
  have hm0 := (h.lt mm _ h.cnt).1
  obtain ⟨A, n, cp, c1, hn, hnc, hcm, c2, c3, c4, hM⟩ := h.pop
  simp only [List.length_cons] at hlen
  have hn1 : n ≤ 10000 := by omega
  have B1 : Below base w (w.setCell ⟨bb, 1, none⟩ (.slice (some ⟨A, 0, none⟩) n cp)) := (Below.refl _ _).setCell (p := ⟨bb, 1, none⟩) hb0 _
  obtain ⟨nm, m1⟩ := hM.map
  have hl1 := m1.look keyS Tryz.underlying169 (hz _) hkey false
  rw [hf] at hl1
  simp only [] at hl1
  have HK := Lib.hid hkey
  have HN := Lib.hid hn
  have HR := Lib.hid hrec
  have HF := Lib.hid hf
  have HG1 := Lib.hid g1
  have HG2 := Lib.hid g2
  clear hkey hn hrec hf g1 g2 hlen hr h
  generalize r.name = key at *
  go_enter Tryz.func358, Tryz.ntmps358
  go_wp2_with (at_mapUpdate; go_must (refine wpList_mapset rfl _ _ _ _ (.inl rfl) keyS Tryz.underlying169 rfl m1 _ _ _ rfl rfl HK.out (upF f key (.int .i64 c)) (upF_new f key _) (fun y hy => upF_old f key _ y hy) ?_)) 
  intro w2 m2 gr2
  have hM2 := hM.mapped m2 gr2
  have B2 : Below base w w2 := B1.trans ((Below.refl _ _).grown gr2 (by have := (hM.lt mm _ hM.cnt); omega) (fun k hk => by injection hk with hk; omega))
  have hl2 := m2.look keyS Tryz.underlying169 (hz _) HK.out false
  rw [upF_new] at hl2
  simp only [] at hl2
  have k2 : w2.cell? ⟨bb, 2, none⟩ = some (.map (some mm)) := by
    obtain ⟨OV, PV, hb, _⟩ := hM2.blk
    rw [Lib.cell_of_heap hb]; rfl
  have F2 : Frm own w w2 := fun q hq hl => by
    rw [gr2.block q (by rw [size_set]; exact hl) (fun e => by injection e with e; subst e; rw [hM.cnt] at hq; cases hq)]
    exact heap_setCell_other (p := ⟨bb, 1, none⟩) (fun e => by simp only [] at e; subst e; rw [hM.me] at hq; cases hq)
  have hS2 := B2.size
  have HM2 := Lib.hid hM2
  clear hM hM2 gr2 hl1 m1 c1 c2 c3 c4 hcn B1
  by_cases h0 : c = 0
  · subst h0
    have H0 := Lib.hid (show f' (.string ⟨key.toArray⟩) = none by rw [HG1.out]; rfl)
    go_wp2_with (at_delete; go_must (refine wpList_mapdel rfl _ _ _ rfl keyS Tryz.underlying169 rfl m2 (.string ⟨key.toArray⟩) _ rfl HK.out f' H0.out (fun y hy => by rw [upF_old f key _ y hy]; exact HG2.out y hy) ?_))
    intro w3 m3 gr3
    have hM3 := HM2.out.mapped m3 gr3
    have B3 := B2.grown gr3 (by have := (HM2.out.lt mm _ HM2.out.cnt); omega) (fun k hk => by injection hk with hk; omega)
    have F3 : Frm own w w3 := F2.trans hS2 (fun q hq hl => gr3.block q hl (fun e => by injection e with e; subst e; rw [HM2.out.cnt] at hq; cases hq))
    clear gr3 m2 m3 hl2 k2
    go_wp2
    go_ret
    exact ⟨rfl, B3, F3, hM3⟩
  · have hff : f' = upF f key (.int .i64 c) := by
      funext y
      by_cases hy : y = .string ⟨key.toArray⟩
      · subst hy
        rw [HG1.out, upF_new, if_neg h0]
      · rw [HG2.out y hy, upF_old f key _ y hy]
    have q0 : ((c : Int) == 0) = false := by rw [beq_eq_false_iff_ne]; omega
    have HFF := Lib.hid hff
    clear hff h0
    go_wp2
    go_ret
    exact ⟨rfl, B2, F2, HFF.out ▸ HM2.out⟩
end Go.Proofs.YtnkelhmjkmeilaaGreatDoor.K
end
section
namespace Go.Proofs.YtnkelhmjkmeilaaGreatDoor.K
open Go.RowKit Go.Maps Go.WideMaps
def BI (w : World) (base bb N : Nat) (z : Zp) : Prop := ∃ own mm g outs opens, MI w own base bb mm N g outs opens (cntF z.fr) ∧ ZR g outs opens w.heap.size z
theorem BI.below {w w' : World} {base bb N B : Nat} {z : Zp} (h : BI w base bb N z) (hb : Below B w w') (hB : w.heap.size ≤ B) : BI w' base bb N z := by
  obtain ⟨own, mm, g, outs, opens, h1, h2⟩ := h
  exact ⟨own, mm, g, outs, opens, h1.below hb hB, h2.more hb.size⟩
theorem ZR.head {g : Sto} {outs opens : List Nat} {hi : Nat} {z : Zp} (h : ZR g outs opens hi z) : ∀ p bs, opens = p :: bs → p < hi ∧ ∃ r, g p = some r := by
  rintro p bs rfl
  obtain ⟨fr, last⟩ := z
  obtain ⟨h1, h2⟩ := h
  have := h2.lohi
  match fr, h1 with
  | [], h1 => exact absurd h1 (by simp [Sp])
  | (k, h') :: fs, h1 =>
    simp only [Sp] at h1
    obtain ⟨⟨ids, e⟩, _⟩ := h1
    exact ⟨this, _, e⟩
def tkV (t : Tk) (A : Option Addr) (c : Nat) : Value := .agg #[.int .i64 t.kind, .string ⟨t.name.toArray⟩, .slice A t.attrs.length c, .string ⟨t.text.toArray⟩]
theorem add_new {w : World} {own : Own} {base bb mm N : Nat} {g : Sto} {outs opens : List Nat} {f : Value → Option Value} {hi b : Nat} {z : Zp} {k : Int} {nm : List UInt8} {ats : List Atr} {tx : List UInt8}
    (h : MI w own base bb mm N (g.set b ⟨k, nm, ats, tx, []⟩) outs opens f) (hz : ZR g outs opens hi z) (hb : hi ≤ b) (hbs : b < w.heap.size) (hN : N ≤ 10000) :
    Calls Tryz.prog 359 #[.pointer (some ⟨bb, 0, none⟩), .pointer (some ⟨b, 0, none⟩)] w fun e w' => e = .returned (.tuple #[]) ∧ Below base w w' ∧ Frm own w w' ∧
      ∃ own' g' outs', MI w' own' base bb mm (N + 1) g' outs' opens f ∧ ZR g' outs' opens w'.heap.size ⟨z.fr, z.last ++ [.mk k nm ats tx []]⟩ ∧ ∃ cl, plIds g' outs' opens = cl ++ [b] := by
  have hp : ∀ p bs, opens = p :: bs → ∃ r, (g.set b ⟨k, nm, ats, tx, []⟩) p = some r := by
    intro p bs e
    obtain ⟨h1, r, h2⟩ := hz.head p bs e
    exact ⟨r, (Sto.set_other _ _ (by omega)).trans h2⟩
  refine (add_any h hp hN b).mono ?_
  rintro e w' ⟨rfl, b1, f1, own', _, h1⟩
  have hsz := b1.size
  obtain ⟨h2, h3⟩ := hz.add hb k nm ats tx
  exact ⟨rfl, b1, f1, own', _, _, h1, h2.more (by omega), _, h3⟩
theorem own_fresh {w : World} {own : Own} {base bb mm N : Nat} {g : Sto} {outs opens : List Nat} {f : Value → Option Value} (h : MI w own base bb mm N g outs opens f) {b : Nat} (hb : w.heap.size ≤ b) : own b = none := by
  cases ho : own b with
  | none => rfl
  | some x => have := (h.lt b x ho).2; omega
set_option maxHeartbeats 1000000 in
set_option maxRecDepth 100000 in
theorem remark_any {w : World} {base bb N : Nat} {z : Zp} (h : BI w base bb N z) (hN : N ≤ 9000) (t : Tk) (A : Option Addr) (c : Nat) (ht : t.text.length ≤ 2000) :
    Calls Tryz.prog 357 #[.pointer (some ⟨bb, 0, none⟩), tkV t A c] w fun e w' => e = .returned (.tuple #[]) ∧ Below base w w' ∧ BI w' base bb (N + 3) (remarkZ z t.text) := by
  obtain ⟨own, mm, g, outs, opens, h1, h2⟩ := h
  have hbase := (h1.lt bb _ h1.me)
  have b0 : Below w.heap.size w (w.alloc (.cells #[.int .i64 t.kind, .string ⟨t.name.toArray⟩, .slice A t.attrs.length c, .string ⟨t.text.toArray⟩] 443)) := (Below.refl _ w).alloc (Nat.le_refl _) _
  have b1 := b0.alloc (by simp) (.cells #[.int .i64 3, .string ⟨#[]⟩, .slice none 0 0, .string ⟨t.text.toArray⟩, .slice none 0 0, .slice none 0 0, .slice none 0 0] 482)
  have hnew := heap_alloc_new (w.alloc (.cells #[.int .i64 t.kind, .string ⟨t.name.toArray⟩, .slice A t.attrs.length c, .string ⟨t.text.toArray⟩] 443)) (.cells #[.int .i64 3, .string ⟨#[]⟩, .slice none 0 0, .string ⟨t.text.toArray⟩, .slice none 0 0, .slice none 0 0, .slice none 0 0] 482)
  rw [World.size_alloc] at hnew
  have hM := (h1.below b1 (Nat.le_refl _)).more (Nat.le_succ N)
  obtain ⟨own', _, hM', _⟩ := hM.new (b := w.heap.size + 1) (k := 3) (nm := []) (ats := []) (tx := t.text) (A := none) (n := 0) (c := 0) (TV := .slice none 0 0) (e2 := 0) hnew (by omega) (own_fresh h1 (by omega)) (World.ownsRow_nil _ _ _ _) (fun q hq => by simp [Value.ownBlock] at hq)
    (ByR.nil _ _) (fun q hq => by simp [Value.ownBlock] at hq) (by simp) (by omega) (by simp)
  have HM := Lib.hid hM'
  have HB := Lib.hid b1
  clear hM hM' hnew b0 b1 h1
  go_enter Tryz.func357, Tryz.ntmps357
  unfold tkV
  go_wp2_with fail
  refine (add_new HM.out h2 (Nat.le_succ _) (by simp) (by omega)).mono ?_
  rintro e W2 ⟨rfl, b2, _, own2, g2, outs2, m2, z2, _⟩
  have B2 := (HB.out.mono (Nat.le_of_lt (Nat.lt_of_le_of_lt hbase.1 hbase.2))).trans b2
  go_wp2
  go_end0
  exact ⟨rfl, B2, own2, mm, g2, outs2, opens, m2.more (by omega), z2⟩
end Go.Proofs.YtnkelhmjkmeilaaGreatDoor.K
end
