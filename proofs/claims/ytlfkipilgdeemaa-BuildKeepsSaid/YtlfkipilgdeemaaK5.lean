/- The package build: New, place, add, shut. -/
import Derived.Test.YtlfkipilgdeemaaK4
namespace Go.Proofs.Ytlfkipilgdeemaa
open Go.RowKit Go.Maps Go.WideMaps

theorem ptr_row_info : (Try.prog.info? 54).map (fun i => (i.zero, i.size, i.bytes)) = some (some (.pointer none), 1, 8) := by kernel_rfl
theorem rowPt : Row Try.prog 43 54 1 8 := by
  obtain ⟨i, hi, hz, h1, h2⟩ := info_parts ptr_row_info
  exact ⟨Try.underlying43, ⟨i, _, hi, hz, h1, h2, rfl⟩, by decide⟩

/-- the names of open elements, as what the map holds -/
def cntF (fs : Frs) (v : Value) : Option Value := match v with
  | .string s => if cntN s.data.toList fs = 0 then none else some (.int .i64 (cntN s.data.toList fs))
  | _ => none
theorem cntF_nil : cntF [] = fun _ => none := by
  funext v
  cases v <;> rfl

set_option maxRecDepth 100000 in
/-- build.New -/
theorem New_any (w : World) : Calls Try.prog 7 #[] w fun e w' => e = .returned (.pointer (some ⟨w.heap.size + 1, 0, none⟩)) ∧ Below w.heap.size w w' ∧
    ∃ own, MI w' own w.heap.size (w.heap.size + 1) w.heap.size 0 (fun _ => none) [] [] (cntF []) := by
  have hmm := @run_makeMap Try.prog
  go_enter Try.func7, Try.ntmps7
  go_wp2
  go_ret
  refine ⟨rfl, ((Below.refl _ w).alloc (Nat.le_refl _) _).alloc (by simp) _, fun q => if q = w.heap.size then some .cnt else if q = w.heap.size + 1 then some .me else none, ?_⟩
  refine ⟨?_, by simp, by simp, ⟨.slice none 0 0, .slice none 0 0, ?_, ⟨World.ownsRow_nil _ _ _ _, fun q hq => by simp [Value.ownBlock] at hq⟩, ⟨World.ownsRow_nil _ _ _ _, fun q hq => by simp [Value.ownBlock] at hq⟩⟩, ⟨0, ?_⟩, fun b r hb => by simp at hb, Nat.le_refl _, Nat.le_refl _⟩
  · intro q r hq
    change (if q = w.heap.size then some Role.cnt else if q = w.heap.size + 1 then some Role.me else none) = some r at hq
    simp only [World.size_alloc]
    split at hq
    · omega
    · split at hq
      · omega
      · cases hq
  · have := heap_alloc_new (w.alloc (.map #[] 0)) (.cells #[.slice none 0 0, .slice none 0 0, .map (some w.heap.size)] 45)
    simpa using this
  · rw [cntF_nil]
    exact (MapIs.made Try.prog 9 w).alloc _

set_option maxRecDepth 100000 in
/-- place -/
theorem place_any {w : World} {own : Own} {base bb mm N : Nat} {g : Sto} {outs opens : List Nat} {f : Value → Option Value} (h : MI w own base bb mm N g outs opens f) (hN : N ≤ 1000) :
    Calls Try.prog 34 #[.pointer (some ⟨bb, 0, none⟩)] w fun e w' => e = .returned (.pointer (some (plAddr bb opens))) ∧ Below w.heap.size w w' := by
  cases opens with
  | nil =>
    obtain ⟨h1, h2, h3, ⟨OV, PV, h4, h5, h6⟩, ⟨nm, h7⟩, h8, h9, h10⟩ := h
    obtain ⟨A, c, rfl, hc⟩ := own_shape h6.row
    have c1 := Lib.cell_of_heap h4 1
    simp only [List.getElem?_toArray, List.getElem?_cons_zero, List.getElem?_cons_succ, List.length_nil] at c1
    go_enter Try.func34, Try.ntmps34
    go_wp2
    go_ret
    exact ⟨rfl, Below.refl _ _⟩
  | cons b bs =>
    have hlen := h.fewP
    obtain ⟨A, n, c, c1, hn, hnc, hcm, c2, c3, _, _⟩ := h.pop
    simp only [List.length_cons] at hlen
    have hn1 : n ≤ 1000 := by omega
    clear hn hlen h
    go_enter Try.func34, Try.ntmps34
    go_wp2
    go_region
    go_wp2
    go_ret
    exact ⟨rfl, (Below.refl _ _).drew⟩

theorem grown_cell {w w' : World} {row : Option Nat} (hg : w.grownBy w' row) {a : Addr} (hl : a.block < w.heap.size) (hn : some a.block ≠ row) : w'.cell? a = w.cell? a ∧ w'.frozen? a = w.frozen? a :=
  ⟨World.cell?_of_block (hg.block a.block hl hn), World.frozen?_of_block (hg.block a.block hl hn)⟩

set_option maxRecDepth 100000 in
/-- add -/
theorem add_any {w : World} {own : Own} {base bb mm N : Nat} {g : Sto} {outs opens : List Nat} {f : Value → Option Value} (h : MI w own base bb mm N g outs opens f) (hp : ∀ p bs, opens = p :: bs → ∃ r, g p = some r) (hN : N ≤ 1000) (x : Nat) :
    Calls Try.prog 32 #[.pointer (some ⟨bb, 0, none⟩), .pointer (some ⟨x, 0, none⟩)] w fun e w' => e = .returned (.tuple #[]) ∧ Below base w w' ∧ Frm own w w' ∧
      ∃ own', Own.Le own own' ∧ MI w' own' base bb mm (N + 1) (addKid g opens x) (addOut outs opens x) opens f := by
  go_enter Try.func32, Try.ntmps32
  go_wp2_with fail
  refine (place_any h hN).mono ?_
  rintro e W1 ⟨rfl, b1⟩
  have hbase := (h.lt bb _ h.me)
  have h1 := h.below b1 (Nat.le_refl _)
  have B1 : Below base w W1 := b1.mono (by omega)
  obtain ⟨V, k1, k2, k3, k4, k5, k6, k7, k9, k8⟩ := h1.place hp
  have F1 : Frm own w W1 := Frm.of_below b1
  have hS1 := b1.size
  have hW : base ≤ W1.heap.size := by omega
  clear h h1 b1 hbase
  generalize plAddr bb opens = a at *
  obtain ⟨A, c, rfl, hc⟩ := own_shape k3
  go_wp2_with (at_builtin; refine wpList_push_at rfl _ _ _ rfl base rowPt A _ c _ rfl k3 [.pointer (some ⟨x, 0, none⟩)] _ rfl rfl (by simp [Value.oneCell']) (by unfold maxLen; omega) (by omega) hW ?_)
  intro A' c' w2 hc' hown hg hat
  obtain ⟨g1, g2⟩ := grown_cell hg k6 k4
  rw [k1] at g1
  rw [k2] at g2
  have hres := k8 w2 _ x hg hown hat
  have B2 : Below base W1 w2 := (Below.refl _ _).grown hg hW (own_ge k3)
  have B3 := B1.trans B2
  have F2 : ∀ u, Frm own w (w2.setCell a u) := fun u => F1.trans hS1 (fun q hq hl => by
    rw [heap_setCell_other (p := a) (fun e => k9.1 (e ▸ hq))]
    exact hg.block q hl (fun e => k9.2 q e.symm hq))
  clear hown hat hg k1 k2 k8 k9 B1 B2 F1
  go_wp2
  go_end0
  exact ⟨rfl, B3.setCell k7 _, F2 _, hres⟩
end Go.Proofs.Ytlfkipilgdeemaa
