/- compile.maker.inside, outside of all: the first statement. -/
import Derived.Test.YtnkelhmjkmeilaaGreatDoorT42
section
namespace Go.Proofs.YtnkelhmjkmeilaaGreatDoor.H
open Go.RowKit Go.Maps Go.WideMaps
attribute [local go_sem ↓] Go.wp_at_zero Go.wp_at_succ
def wiCs (T : Addr) (cT : Nat) (U : Option Addr) (cU g fa gR gS : Nat) : Array Value := #[.slice (some T) 1 cT, .slice none 0 0, .slice U 0 cU, .slice (some ⟨g, 0, none⟩) 2 2, .func (.func fa) #[] #[], .int .i64 0, .slice none 0 0, .slice (some ⟨gR, 0, none⟩) 2 2, .slice (some ⟨gS, 0, none⟩) 2 2, .slice none 0 0]
abbrev wiV (T : Addr) (cT : Nat) (U : Option Addr) (cU g fa gR gS : Nat) : Value := .agg #[.slice (some T) 1 cT, .slice none 0 0, .slice U 0 cU, .slice (some ⟨g, 0, none⟩) 2 2, .func (.func fa) #[] #[], .int .i64 0, .slice none 0 0, .slice (some ⟨gR, 0, none⟩) 2 2, .slice (some ⟨gS, 0, none⟩) 2 2, .slice none 0 0]
theorem stored10 {W : World} {g : Nat} {a0 a1 a2 a3 a4 a5 a6 a7 a8 a9 : Value} {T : TypeId} (h : W.heap[g]? = some (.cells #[a0, a1, a2, a3, a4, a5, a6, a7, a8, a9] T (0, 0))) (v0 v1 v2 v3 v4 v5 v6 v7 v8 v9 : Value) :
    ((((((((((W.setCell ⟨g, 0, none⟩ v0).setCell ⟨g, 1, none⟩ v1).setCell ⟨g, 2, none⟩ v2).setCell ⟨g, 3, none⟩ v3).setCell ⟨g, 4, none⟩ v4).setCell ⟨g, 5, none⟩ v5).setCell ⟨g, 6, none⟩ v6).setCell ⟨g, 7, none⟩ v7).setCell ⟨g, 8, none⟩ v8).setCell ⟨g, 9, none⟩ v9).heap[g]? = some (.cells #[v0, v1, v2, v3, v4, v5, v6, v7, v8, v9] T (0, 0)) := by
  have h0 := heap_setCell_same W g 0 _ _ v0 h
  have h1 := heap_setCell_same _ g 1 _ _ v1 h0
  have h2 := heap_setCell_same _ g 2 _ _ v2 h1
  have h3 := heap_setCell_same _ g 3 _ _ v3 h2
  have h4 := heap_setCell_same _ g 4 _ _ v4 h3
  have h5 := heap_setCell_same _ g 5 _ _ v5 h4
  have h6 := heap_setCell_same _ g 6 _ _ v6 h5
  have h7 := heap_setCell_same _ g 7 _ _ v7 h6
  have h8 := heap_setCell_same _ g 8 _ _ v8 h7
  have h9 := heap_setCell_same _ g 9 _ _ v9 h8
  simpa using h9
theorem below10 {w W : World} {g B : Nat} (h : Below B w W) (hg : B ≤ g) (v0 v1 v2 v3 v4 v5 v6 v7 v8 v9 : Value) : Below B w ((((((((((W.setCell ⟨g, 0, none⟩ v0).setCell ⟨g, 1, none⟩ v1).setCell ⟨g, 2, none⟩ v2).setCell ⟨g, 3, none⟩ v3).setCell ⟨g, 4, none⟩ v4).setCell ⟨g, 5, none⟩ v5).setCell ⟨g, 6, none⟩ v6).setCell ⟨g, 7, none⟩ v7).setCell ⟨g, 8, none⟩ v8).setCell ⟨g, 9, none⟩ v9) :=
  ((((((((((h.setCell (p := ⟨g, 0, none⟩) hg _).setCell (p := ⟨g, 1, none⟩) hg _).setCell (p := ⟨g, 2, none⟩) hg _).setCell (p := ⟨g, 3, none⟩) hg _).setCell (p := ⟨g, 4, none⟩) hg _).setCell (p := ⟨g, 5, none⟩) hg _).setCell (p := ⟨g, 6, none⟩) hg _).setCell (p := ⟨g, 7, none⟩) hg _).setCell (p := ⟨g, 8, none⟩) hg _).setCell (p := ⟨g, 9, none⟩) hg _)
theorem other10 {W : World} {g q : Nat} (hq : q ≠ g) (v0 v1 v2 v3 v4 v5 v6 v7 v8 v9 : Value) : ((((((((((W.setCell ⟨g, 0, none⟩ v0).setCell ⟨g, 1, none⟩ v1).setCell ⟨g, 2, none⟩ v2).setCell ⟨g, 3, none⟩ v3).setCell ⟨g, 4, none⟩ v4).setCell ⟨g, 5, none⟩ v5).setCell ⟨g, 6, none⟩ v6).setCell ⟨g, 7, none⟩ v7).setCell ⟨g, 8, none⟩ v8).setCell ⟨g, 9, none⟩ v9).heap[q]? = W.heap[q]? := by
  have oth : ∀ (X : World) (p : Addr) (w : Value), q ≠ p.block → (X.setCell p w).heap[q]? = X.heap[q]? := fun X p w h => heap_set_other h
  rw [oth _ ⟨g, 9, none⟩ _ hq, oth _ ⟨g, 8, none⟩ _ hq, oth _ ⟨g, 7, none⟩ _ hq, oth _ ⟨g, 6, none⟩ _ hq, oth _ ⟨g, 5, none⟩ _ hq, oth _ ⟨g, 4, none⟩ _ hq, oth _ ⟨g, 3, none⟩ _ hq, oth _ ⟨g, 2, none⟩ _ hq, oth _ ⟨g, 1, none⟩ _ hq, oth _ ⟨g, 0, none⟩ _ hq]
theorem ret_wi {f : Func} {p : Tmp} (h : f.results = #[.cell p 206]) {a : Act} {w : World} {g : Nat} {v0 v1 v2 v3 v4 v5 v6 v7 v8 v9 : Value} {R : Ending → World → Prop} (hp : a.tmps.getD p undef = .pointer (some ⟨g, 0, none⟩)) (hd : a.defers = [])
    (hg : w.heap[g]? = some (.cells #[v0, v1, v2, v3, v4, v5, v6, v7, v8, v9] 206 (0, 0))) (hR : R (.returned (.agg #[v0, v1, v2, v3, v4, v5, v6, v7, v8, v9])) w) : bodyPost Tryz.prog f R .ret a w := by
  have hc := fun j => Lib.cell_of_heap hg j
  have c0 := hc 0
  have c1 := hc 1
  have c2 := hc 2
  have c3 := hc 3
  have c4 := hc 4
  have c5 := hc 5
  have c6 := hc 6
  have c7 := hc 7
  have c8 := hc 8
  have c9 := hc 9
  simp only [List.getElem?_toArray, List.getElem?_cons_zero, List.getElem?_cons_succ] at c0 c1 c2 c3 c4 c5 c6 c7 c8 c9
  refine bodyPost_ret (v := .agg #[v0, v1, v2, v3, v4, v5, v6, v7, v8, v9]) ?_ hd hR
  rw [results_cell1' h, hp]
  go_simp
def WiCut (T : Addr) (cT : Nat) (U : Option Addr) (cU g fa : Nat) (W wx : World) (gR gS gW : Nat) : Prop := wx.heap[gR]? = some (.cells #[.int .i64 0, .int .i64 0] 3 (0, 0)) ∧ wx.heap[gS]? = some (.cells #[.bool false, .bool false] 4 (0, 0)) ∧
  wx.heap[gW]? = some (.cells (wiCs T cT U cU g fa gR gS) 206 (0, 0)) ∧ (gR ≠ gS ∧ gR ≠ gW ∧ gS ≠ gW) ∧ W.heap.size ≤ gR ∧ W.heap.size ≤ gS ∧ W.heap.size ≤ gW ∧ Below W.heap.size W wx
def WiRet (T : Addr) (cT : Nat) (U : Option Addr) (cU g fa : Nat) (w : World) (e : Ending) (w' : World) : Prop := ∃ gR gS, e = .returned (wiV T cT U cU g fa gR gS) ∧ w'.heap[gR]? = some (.cells #[.int .i64 0, .int .i64 0] 3 (0, 0)) ∧ w'.heap[gS]? = some (.cells #[.bool true, .bool false] 4 (0, 0)) ∧ Below w.heap.size w w'
set_option maxHeartbeats 8000000 in
set_option maxRecDepth 100000 in
theorem inside_any {w : World} {T : Addr} {U : Option Addr} {cT cU g fa : Nat} (hL : LabsAt w g) (hT : w.cell? T = some (strV wText)) :
    Calls Tryz.prog 114 #[mkrV T cT U cU g fa, .string ⟨#[]⟩] w (WiRet T cT U cU g fa w) := by
  obtain ⟨W1, hW1⟩ : ∃ W1, W1 = ((w.alloc (.cells #[.slice (some T) 1 cT, .slice none 0 0, .slice U 0 cU, .slice (some ⟨g, 0, none⟩) 2 2, .func (.func fa) #[] #[]] 153)).alloc (.cells #[.slice none 0 0, .slice none 0 0, .slice none 0 0, .slice none 0 0, .nilFunc, .int .i64 0, .slice none 0 0, .slice none 0 0, .slice none 0 0, .slice none 0 0] 206)) := ⟨_, rfl⟩
  have hs1 : W1.heap.size = w.heap.size + 2 := by rw [hW1, World.size_alloc, World.size_alloc]
  have hx0 : W1.heap[w.heap.size]? = some (.cells #[.slice (some T) 1 cT, .slice none 0 0, .slice U 0 cU, .slice (some ⟨g, 0, none⟩) 2 2, .func (.func fa) #[] #[]] 153 (0, 0)) := by
    rw [hW1]
    exact (Below.heap_alloc _ _ _ (by rw [World.size_alloc]; omega)).trans (heap_alloc_new w _)
  have hx2 : W1.heap[w.heap.size + 1]? = some (.cells #[.slice none 0 0, .slice none 0 0, .slice none 0 0, .slice none 0 0, .nilFunc, .int .i64 0, .slice none 0 0, .slice none 0 0, .slice none 0 0, .slice none 0 0] 206 (0, 0)) := by
    have h9 := heap_alloc_new (w.alloc (.cells #[.slice (some T) 1 cT, .slice none 0 0, .slice U 0 cU, .slice (some ⟨g, 0, none⟩) 2 2, .func (.func fa) #[] #[]] 153)) (.cells #[.slice none 0 0, .slice none 0 0, .slice none 0 0, .slice none 0 0, .nilFunc, .int .i64 0, .slice none 0 0, .slice none 0 0, .slice none 0 0, .slice none 0 0] 206)
    rw [World.size_alloc] at h9
    rw [hW1]
    exact h9
  have hB1 : Below w.heap.size w W1 := by
    rw [hW1]
    exact ((Below.refl _ w).alloc (Nat.le_refl _) _).alloc (by rw [World.size_alloc]; omega) _
  have HB1 := Lib.hid hB1
  have HX := Lib.hid (And.intro hx0 hx2)
  have HW1 := Lib.hid hW1
  have HT := Lib.hid hT
  have hs1a : w.heap.size + 2 ≤ W1.heap.size := Nat.le_of_eq hs1.symm
  have hs1b : W1.heap.size ≤ w.heap.size + 2 := Nat.le_of_eq hs1
  have hg := (Array.getElem?_eq_some_iff.1 hL).1
  have HL := Lib.hid (hL.on hB1)
  have x0 := Lib.cell_of_heap hx0 0
  have x1 := Lib.cell_of_heap hx0 1
  have x2 := Lib.cell_of_heap hx0 2
  have x3 := Lib.cell_of_heap hx0 3
  have x4 := Lib.cell_of_heap hx0 4
  simp only [List.getElem?_toArray, List.getElem?_cons_zero, List.getElem?_cons_succ] at x0 x1 x2 x3 x4
  have hwl : w.heap.size < W1.heap.size := by omega
  clear hx0 hx2 hB1 hs1 hW1 hL hT
  obtain ⟨ind, hind, hzd, hsd, hbd⟩ := info_parts infoIn
  obtain ⟨inb, hinb, hzb, hsb, hbb⟩ := info_parts infoBl
  have hmkR : ∀ w : World, (Instr.makeSlice 111 (.int .i64 2) (.int .i64 2)).run Tryz.prog w = .ok (.slice (some ⟨w.heap.size, 0, none⟩) 2 2) (w.alloc (.cells #[.int .i64 0, .int .i64 0] 3)) := fun w => by
    have h9 := run_make (P := Tryz.prog) w 111 3 ind _ Tryz.underlying111 hind hzd .i64 .i64 2 2 (by omega) (Int.le_refl _) (by rw [hbd]; omega) (by omega)
    rw [hsd, show madeCells (Value.int .i64 0).cells (Int.toNat 2 * 1) = #[.int .i64 0, .int .i64 0] by kernel_rfl] at h9
    exact h9
  have hmkS : ∀ w : World, (Instr.makeSlice 99 (.int .i64 2) (.int .i64 2)).run Tryz.prog w = .ok (.slice (some ⟨w.heap.size, 0, none⟩) 2 2) (w.alloc (.cells #[.bool false, .bool false] 4)) := fun w => by
    have h9 := run_make (P := Tryz.prog) w 99 4 inb _ Tryz.underlying99 hinb hzb .i64 .i64 2 2 (by omega) (Int.le_refl _) (by rw [hbb]; omega) (by omega)
    rw [hsb, show madeCells (Value.bool false).cells (Int.toNat 2 * 1) = #[.bool false, .bool false] by kernel_rfl] at h9
    exact h9
  go_enter Tryz.func114, Tryz.ntmps114
  go_upto_region 1 with fail
  rw [← HW1.out]
  go_cut [5] (fun s5 wx => ∃ gR gS gW, s5 = .pointer (some ⟨gW, 0, none⟩) ∧ WiCut T cT U cU g fa W1 wx gR gS gW)
  case first =>
    have r0 := fun w' (hw' : Below W1.heap.size W1 w') => (hw'.cell (p := ⟨w.heap.size, 0, none⟩) hwl).trans x0
    have r1 := fun w' (hw' : Below W1.heap.size W1 w') => (hw'.cell (p := ⟨w.heap.size, 1, none⟩) hwl).trans x1
    have r2 := fun w' (hw' : Below W1.heap.size W1 w') => (hw'.cell (p := ⟨w.heap.size, 2, none⟩) hwl).trans x2
    have r3 := fun w' (hw' : Below W1.heap.size W1 w') => (hw'.cell (p := ⟨w.heap.size, 3, none⟩) hwl).trans x3
    have r4 := fun w' (hw' : Below W1.heap.size W1 w') => (hw'.cell (p := ⟨w.heap.size, 4, none⟩) hwl).trans x4
    have hb0 : Below W1.heap.size W1 W1 := Below.refl _ _
    clear x0 x1 x2 x3 x4
    go_region_held3 (fun w' => Below W1.heap.size W1 w')
      (repeat (first | assumption | with_reducible refine Below.drew ?_ | with_reducible refine bal ?_ _))
      (fail)
    all_goals
      go_wp2_with fail
      go_meet
      first
      | exact ⟨W1.heap.size, W1.heap.size + 1, W1.heap.size + 1 + 1, rfl, (al3 W1 _ _ _ _ _ _).1, (al3 W1 _ _ _ _ _ _).2.1, (al3 W1 _ _ _ _ _ _).2.2.1, ⟨by omega, by omega, by omega⟩, by omega, by omega, by omega, (al3 W1 _ _ _ _ _ _).2.2.2.drew⟩
      | exact ⟨W1.heap.size, W1.heap.size + 1 + 1, W1.heap.size + 1, rfl, (al3 W1 _ _ _ _ _ _).1, (al3 W1 _ _ _ _ _ _).2.2.1, (al3 W1 _ _ _ _ _ _).2.1, ⟨by omega, by omega, by omega⟩, by omega, by omega, by omega, (al3 W1 _ _ _ _ _ _).2.2.2.drew⟩
      | exact ⟨W1.heap.size + 1, W1.heap.size, W1.heap.size + 1 + 1, rfl, (al3 W1 _ _ _ _ _ _).2.1, (al3 W1 _ _ _ _ _ _).1, (al3 W1 _ _ _ _ _ _).2.2.1, ⟨by omega, by omega, by omega⟩, by omega, by omega, by omega, (al3 W1 _ _ _ _ _ _).2.2.2.drew⟩
      | exact ⟨W1.heap.size + 1, W1.heap.size + 1 + 1, W1.heap.size, rfl, (al3 W1 _ _ _ _ _ _).2.1, (al3 W1 _ _ _ _ _ _).2.2.1, (al3 W1 _ _ _ _ _ _).1, ⟨by omega, by omega, by omega⟩, by omega, by omega, by omega, (al3 W1 _ _ _ _ _ _).2.2.2.drew⟩
      | exact ⟨W1.heap.size + 1 + 1, W1.heap.size, W1.heap.size + 1, rfl, (al3 W1 _ _ _ _ _ _).2.2.1, (al3 W1 _ _ _ _ _ _).1, (al3 W1 _ _ _ _ _ _).2.1, ⟨by omega, by omega, by omega⟩, by omega, by omega, by omega, (al3 W1 _ _ _ _ _ _).2.2.2.drew⟩
      | exact ⟨W1.heap.size + 1 + 1, W1.heap.size + 1, W1.heap.size, rfl, (al3 W1 _ _ _ _ _ _).2.2.1, (al3 W1 _ _ _ _ _ _).2.1, (al3 W1 _ _ _ _ _ _).1, ⟨by omega, by omega, by omega⟩, by omega, by omega, by omega, (al3 W1 _ _ _ _ _ _).2.2.2.drew⟩
  case rest =>
    obtain ⟨gR, gS, gW, rfl, hm⟩ := hcut
    rename World => W4
    obtain ⟨hmR, hmS, hmW, ⟨hn1, hn2, hn3⟩, hl1, hl2, hl3, hmB⟩ := hm
    have hlR := (Array.getElem?_eq_some_iff.1 hmR).1
    have hlS := (Array.getElem?_eq_some_iff.1 hmS).1
    have hlW := (Array.getElem?_eq_some_iff.1 hmW).1
    have HM4 := Lib.hid (And.intro hmR (And.intro hmS (And.intro hmW hmB)))
    have HL4 := Lib.hid (HL.out.on hmB)
    have HX4 := Lib.hid ((hmB.block _ hwl).trans HX.out.1)
    have h41 := hmB.size
    have HTx : Hid (∀ W, Below W1.heap.size W1 W → W.cell? T = some (strV wText)) := Lib.hid fun W h => ((bt HB1.out h).cell (p := T) (World.block_lt_of_cell? w T HT.out)).trans HT.out
    have hTl : T.block < w.heap.size := World.block_lt_of_cell? w T HT.out
    have hx3 := Lib.cell_of_heap HX4.out 3
    simp only [List.getElem?_toArray, List.getElem?_cons_zero, List.getElem?_cons_succ] at hx3
    clear hmR hmS hmW hmB hmkR hmkS x0 x1 x2 x3 x4
    go_wp2_with fail
    go_loopw [23] (fun iv wr => ∃ (i : Nat) (z : Int), z = i ∧ iv = .int .i64 z ∧ i ≤ 2 ∧ wr.heap[gS]? = some (.cells #[.bool (decide (0 < i)), .bool false] 4 (0, 0)) ∧ Hid (∀ q, q < W4.heap.size → q ≠ gS → wr.heap[q]? = W4.heap[q]?) ∧ W4.heap.size ≤ wr.heap.size ∧ Below W1.heap.size W1 wr) (fun iv _ => 2 - (intOf iv).toNat)
    case atStart => exact ⟨0, 0, rfl, rfl, by omega, HM4.out.2.1, Lib.hid fun _ _ _ => rfl, Nat.le_refl _, HM4.out.2.2.2⟩
    case round =>
      obtain ⟨i, z, hz, rfl, hi, hS, hfar, hsz, hbr⟩ := hrel
      by_cases hi2 : i = 2
      · subst hi2
        obtain rfl : z = 2 := by omega
        have hWr := (hfar.out gW hlW (fun e => hn3 e.symm)).trans HM4.out.2.2.1
        have hXr := (hfar.out (w.heap.size + 1) (by omega) (by omega)).trans ((HM4.out.2.2.2.block _ (by omega)).trans HX.out.2)
        have hRr := (hfar.out gR hlR hn1).trans HM4.out.1
        have z0 := Lib.cell_of_heap hWr 0
        have z1 := Lib.cell_of_heap hWr 1
        have z2 := Lib.cell_of_heap hWr 2
        have z3 := Lib.cell_of_heap hWr 3
        have z4 := Lib.cell_of_heap hWr 4
        have z5 := Lib.cell_of_heap hWr 5
        have z6 := Lib.cell_of_heap hWr 6
        have z7 := Lib.cell_of_heap hWr 7
        have z8 := Lib.cell_of_heap hWr 8
        have z9 := Lib.cell_of_heap hWr 9
        have y0 := Lib.cell_of_heap hXr 0
        have f0 := Lib.frozen_of_heap hXr 0
        have y1 := Lib.cell_of_heap hXr 1
        have f1 := Lib.frozen_of_heap hXr 1
        have y2 := Lib.cell_of_heap hXr 2
        have f2 := Lib.frozen_of_heap hXr 2
        have y3 := Lib.cell_of_heap hXr 3
        have f3 := Lib.frozen_of_heap hXr 3
        have y4 := Lib.cell_of_heap hXr 4
        have f4 := Lib.frozen_of_heap hXr 4
        have y5 := Lib.cell_of_heap hXr 5
        have f5 := Lib.frozen_of_heap hXr 5
        have y6 := Lib.cell_of_heap hXr 6
        have f6 := Lib.frozen_of_heap hXr 6
        have y7 := Lib.cell_of_heap hXr 7
        have f7 := Lib.frozen_of_heap hXr 7
        have y8 := Lib.cell_of_heap hXr 8
        have f8 := Lib.frozen_of_heap hXr 8
        have y9 := Lib.cell_of_heap hXr 9
        have f9 := Lib.frozen_of_heap hXr 9
        simp only [wiCs, List.getElem?_toArray, List.getElem?_cons_zero, List.getElem?_cons_succ] at z0 y0 z1 y1 z2 y2 z3 y3 z4 y4 z5 y5 z6 y6 z7 y7 z8 y8 z9 y9
        have hST := fun v0 v1 v2 v3 v4 v5 v6 v7 v8 v9 => stored10 hXr v0 v1 v2 v3 v4 v5 v6 v7 v8 v9
        have HEND := Lib.hid (And.intro hST (And.intro hRr (And.intro hS hbr)))
        clear hWr hXr hRr hST hS hbr hfar hz hi
        go_wp2
        obtain ⟨hST, hRr, hS, hbr⟩ := HEND.out
        refine ret_wi rfl rfl rfl (hST _ _ _ _ _ _ _ _ _ _) ⟨gR, gS, rfl, (other10 (by omega) _ _ _ _ _ _ _ _ _ _).trans hRr, (other10 (by omega) _ _ _ _ _ _ _ _ _ _).trans (by simpa using hS), below10 (bt HB1.out hbr) (Nat.le_succ _) _ _ _ _ _ _ _ _ _ _⟩
      · obtain rfl | rfl : i = 0 ∨ i = 1 := by omega
        · obtain rfl : z = 0 := by omega
          clear hz hi hi2
          have hLr : LabsAt wr g := (hfar.out g (by omega) (by omega)).trans HL4.out
          have hXr := (hfar.out w.heap.size (by omega) (by omega)).trans HX4.out
          have hWr := (hfar.out gW hlW (fun e => hn3 e.symm)).trans HM4.out.2.2.1
          have z0 := Lib.cell_of_heap hLr 0
          have z1 := Lib.cell_of_heap hLr 1
          have z2 := Lib.cell_of_heap hLr 2
          have z3 := Lib.cell_of_heap hLr 3
          have z4 := Lib.cell_of_heap hLr 4
          have z5 := Lib.cell_of_heap hLr 5
          have z6 := Lib.cell_of_heap hLr 6
          simp only [labCs, List.getElem?_toArray, List.getElem?_cons_zero, List.getElem?_cons_succ] at z0 z1 z2 z3 z4 z5 z6
          have b1 := (Below.refl _ wr).alloc (Nat.le_refl _) (.cells #[.int .i64 1, .string ⟨#[]⟩, .string ⟨#[]⟩, .bool false, .string ⟨#[]⟩, .bool false, .bool false] 141)
          have hx1 := heap_alloc_new wr (.cells #[.int .i64 1, .string ⟨#[]⟩, .string ⟨#[]⟩, .bool false, .string ⟨#[]⟩, .bool false, .bool false] 141)
          go_upto_region 5 with fail
          generalize wr.alloc (.cells #[.int .i64 1, .string ⟨#[]⟩, .string ⟨#[]⟩, .bool false, .string ⟨#[]⟩, .bool false, .bool false] 141) = Wl at *
          have b2 := b1.alloc b1.size (.cells #[.int .i64 0, .slice none 0 0] 157)
          have hx2 := heap_alloc_new Wl (.cells #[.int .i64 0, .slice none 0 0] 157)
          have HN := Lib.hid (Nodes_one (c := 1) (hLr.on b2) (lab := 0) (by simp) (Lib.cell_of_heap hx2 0) (Lib.cell_of_heap hx2 1))
          have HB2 := Lib.hid b2
          have x3 := Lib.cell_of_heap ((b1.block _ (show w.heap.size < wr.heap.size by omega)).trans hXr) 3
          have y0 := Lib.cell_of_heap hx1 0
          simp only [List.getElem?_toArray, List.getElem?_cons_zero, List.getElem?_cons_succ] at x3 y0
          have HR := Lib.hid (And.intro hS (And.intro hXr (And.intro hWr (And.intro hfar.out hbr))))
          clear b1 b2 hx2 hLr hXr hWr hS hbr hfar z0 z1 z2 z3 z4 z5 z6 hx1
          go_wp2_with fail
          refine HN.out.mono ?_
          rintro e W5 ⟨n, c5, rfl, ho5, b5⟩
          have hb5 := HB2.out.trans (b5.mono HB2.out.size)
          have hn5 := ho5.cells (g := n) rfl
          have m0 := hn5 0 _ rfl
          have m1 := hn5 1 _ rfl
          have m2 := hn5 2 _ rfl
          have m3 := hn5 3 _ rfl
          have m4 := hn5 4 _ rfl
          simp [Addr.add, nodT] at m0 m1 m2 m3 m4
          have hnl := (ho5.lt n rfl).2
          have b6 := (Below.refl _ W5).alloc (Nat.le_refl _) (.cells #[.int .i64 2, .string ⟨#[]⟩, .slice none 0 0, .string ⟨#[120]⟩, .slice none 0 0] 28)
          have hx6 := heap_alloc_new W5 (.cells #[.int .i64 2, .string ⟨#[]⟩, .slice none 0 0, .string ⟨#[120]⟩, .slice none 0 0] 28)
          have h5l := hb5.size
          clear x3 y0 hn5 ho5 b5 HN HB2
          go_wp2_with fail
          refine wp_loop_rounds 2 ?_
          rw [rounds_succ]
          go_upto_region 9 with fail
          generalize W5.alloc (.cells #[.int .i64 2, .string ⟨#[]⟩, .slice none 0 0, .string ⟨#[120]⟩, .slice none 0 0] 28) = W6 at *
          obtain ⟨hS, hXr, hWr, hfar, hbr⟩ := HR.out
          have hb6 := hb5.trans (b6.mono h5l)
          have hX6 := (hb6.block _ (show w.heap.size < wr.heap.size by omega)).trans hXr
          have hW6 := (hb6.block _ (show gW < wr.heap.size by omega)).trans hWr
          have hS6 := (hb6.block _ (show gS < wr.heap.size by omega)).trans hS
          have s0 := Lib.cell_of_heap hW6 8
          have s1 := Lib.cell_of_heap hX6 0
          have s2 := Lib.cell_of_heap hX6 1
          have s3 := Lib.cell_of_heap hX6 2
          have s4 := Lib.cell_of_heap hx6 0
          have s5 := Lib.cell_of_heap hx6 1
          have s6 := Lib.cell_of_heap hx6 2
          have s7 := Lib.cell_of_heap hx6 3
          have s8 := Lib.cell_of_heap hx6 4
          have k0 := Lib.cell_of_heap hS6 0
          have fk0 := Lib.frozen_of_heap hS6 0
          simp only [wiCs, List.getElem?_toArray, List.getElem?_cons_zero, List.getElem?_cons_succ, Nat.lt_irrefl, decide_false] at s0 s1 s2 s3 s4 s5 s6 s7 s8 k0
          have h6l := b6.size
          have h5w := (Array.getElem?_eq_some_iff.1 hx6).1
          have hXl := (Array.getElem?_eq_some_iff.1 hX6).1
          have hWl := (Array.getElem?_eq_some_iff.1 hW6).1
          have hSl := (Array.getElem?_eq_some_iff.1 hS6).1
          have HIN := Lib.hid (fun w' (hw' : Below W6.heap.size W6 w') => show Calls Tryz.prog 162 #[.agg #[.slice (some T) 1 cT, .slice none 0 0, .slice U 0 cU], .string ⟨#[]⟩, .agg #[.int .i64 2, .string ⟨#[]⟩, .slice none 0 0, .string ⟨#[120]⟩, .slice none 0 0]] w' fun e w'' => e = .returned (.bool true) ∧ Below w'.heap.size w' w'' from by
            have h9 := Inside_any (w := w') (T := T) (U := U) (cT := cT) (cU := cU) (k := 2) (by simp) ⟨#[120]⟩ (HTx.out w' (hbr.trans ((hb6.trans (hw'.mono hb6.size)).mono hbr.size))) (by have := hw'.size; have := hb6.size; omega)
            exact h9)
          have H6 := Lib.hid (And.intro hS6 (And.intro hb6 (And.intro hfar hbr)))
          have hne1 : gW ≠ gS := fun e => hn3 e.symm
          have hne2 : w.heap.size ≠ gS := by omega
          have hne3 : W5.heap.size ≠ gS := by omega
          have hne1' := Ne.symm hne1
          have hne2' := Ne.symm hne2
          have hne3' := Ne.symm hne3
          clear hS hXr hWr hX6 hW6 hS6 hb6 b6 hx6 m0 m1 m2 m3 m4 hb5 hfar hbr
          go_region_held3 (fun w' => w'.cell? ⟨gW, 8, none⟩ = some (.slice (some ⟨gS, 0, none⟩) 2 2) ∧ w'.cell? ⟨w.heap.size, 0, none⟩ = some (.slice (some T) 1 cT) ∧ w'.cell? ⟨w.heap.size, 1, none⟩ = some (.slice none 0 0) ∧ w'.cell? ⟨w.heap.size, 2, none⟩ = some (.slice U 0 cU) ∧ w'.cell? ⟨W5.heap.size, 0, none⟩ = some (.int .i64 2) ∧ w'.cell? ⟨W5.heap.size, 1, none⟩ = some (.string ⟨#[]⟩) ∧ w'.cell? ⟨W5.heap.size, 2, none⟩ = some (.slice none 0 0) ∧ w'.cell? ⟨W5.heap.size, 3, none⟩ = some (.string ⟨#[120]⟩) ∧ w'.cell? ⟨W5.heap.size, 4, none⟩ = some (.slice none 0 0))
            (first
              | with_reducible exact ⟨s0, s1, s2, s3, s4, s5, s6, s7, s8⟩
              | with_reducible exact ⟨t0, t1, t2, t3, t4, t5, t6, t7, t8⟩
              | go_keep)
            (first
              | (go_at_call 162; refine (HIN.out _ (Below.drew (Below.refl _ W6))).mono ?_; rintro e WA ⟨rfl, br⟩; have hbA : Below W6.heap.size W6 WA := (Below.drew (Below.refl _ W6)).trans br; have t0 := (hbA.cell (p := ⟨gW, 8, none⟩) (by show gW < _; omega)).trans s0; have t1 := (hbA.cell (p := ⟨w.heap.size, 0, none⟩) (by show w.heap.size < _; omega)).trans s1; have t2 := (hbA.cell (p := ⟨w.heap.size, 1, none⟩) (by show w.heap.size < _; omega)).trans s2; have t3 := (hbA.cell (p := ⟨w.heap.size, 2, none⟩) (by show w.heap.size < _; omega)).trans s3; have t4 := (hbA.cell (p := ⟨W5.heap.size, 0, none⟩) (by show W5.heap.size < _; omega)).trans s4; have t5 := (hbA.cell (p := ⟨W5.heap.size, 1, none⟩) (by show W5.heap.size < _; omega)).trans s5; have t6 := (hbA.cell (p := ⟨W5.heap.size, 2, none⟩) (by show W5.heap.size < _; omega)).trans s6; have t7 := (hbA.cell (p := ⟨W5.heap.size, 3, none⟩) (by show W5.heap.size < _; omega)).trans s7; have t8 := (hbA.cell (p := ⟨W5.heap.size, 4, none⟩) (by show W5.heap.size < _; omega)).trans s8; have k1 := (hbA.cell (p := ⟨gS, 0, none⟩) hSl).trans k0; have fk1 := (hbA.frozen (p := ⟨gS, 0, none⟩) hSl).trans fk0))
          obtain ⟨hS6, hb6, hfar, hbr⟩ := H6.out
          have hSA := (hbA.block gS hSl).trans hS6
          have hset := heap_setCell_same WA gS 0 _ _ (.bool true) hSA
          have hbA6 := hb6.trans (hbA.mono hb6.size)
          have hREL := Lib.hid (show (WA.setCell ⟨gS, 0, none⟩ (.bool true)).heap[gS]? = some (.cells #[.bool (decide (0 < 1)), .bool false] 4 (0, 0)) ∧ (∀ q, q < W4.heap.size → q ≠ gS → (WA.setCell ⟨gS, 0, none⟩ (.bool true)).heap[q]? = W4.heap[q]?) ∧ W4.heap.size ≤ (WA.setCell ⟨gS, 0, none⟩ (.bool true)).heap.size ∧ Below W1.heap.size W1 (WA.setCell ⟨gS, 0, none⟩ (.bool true)) from by
            refine ⟨by simpa using hset, fun q hq hn => ?_, ?_, ?_⟩
            · rw [heap_set_other (p := ⟨gS, 0, none⟩) (show q ≠ gS from hn), hbA6.block q (by omega)]
              exact hfar q hq hn
            · rw [size_set]
              have := hbA6.size
              omega
            · exact (hbr.trans (hbA6.mono hbr.size)).setCell (p := ⟨gS, 0, none⟩) (by show W1.heap.size ≤ gS; omega) _)
          clear hS6 hb6 hfar hbr hSA hset hbA6 s0 s1 s2 s3 s4 s5 s6 s7 s8 k0 fk0 t0 t1 t2 t3 t4 t5 t6 t7 t8 k1 fk1 br hbA
          generalize WA.setCell ⟨gS, 0, none⟩ (.bool true) = W7 at *
          go_wp2_with fail
          rw [rounds_succ]
          go_wp2_with fail
          go_roundw
          case rel => exact ⟨1, 1, rfl, by go_num, by omega, hREL.out.1, Lib.hid hREL.out.2.1, hREL.out.2.2.1, hREL.out.2.2.2⟩
          case measure => simp [intOf]
        · obtain rfl : z = 1 := by omega
          clear hz hi hi2
          have hLr : LabsAt wr g := (hfar.out g (by omega) (by omega)).trans HL4.out
          have hXr := (hfar.out w.heap.size (by omega) (by omega)).trans HX4.out
          have hWr := (hfar.out gW hlW (fun e => hn3 e.symm)).trans HM4.out.2.2.1
          have z0 := Lib.cell_of_heap hLr 7
          have z1 := Lib.cell_of_heap hLr 8
          have z2 := Lib.cell_of_heap hLr 9
          have z3 := Lib.cell_of_heap hLr 10
          have z4 := Lib.cell_of_heap hLr 11
          have z5 := Lib.cell_of_heap hLr 12
          have z6 := Lib.cell_of_heap hLr 13
          simp only [labCs, List.getElem?_toArray, List.getElem?_cons_zero, List.getElem?_cons_succ] at z0 z1 z2 z3 z4 z5 z6
          have b1 := (Below.refl _ wr).alloc (Nat.le_refl _) (.cells #[.int .i64 2, .string ⟨#[]⟩, .string ⟨#[]⟩, .bool false, .string ⟨#[]⟩, .bool false, .bool false] 141)
          have hx1 := heap_alloc_new wr (.cells #[.int .i64 2, .string ⟨#[]⟩, .string ⟨#[]⟩, .bool false, .string ⟨#[]⟩, .bool false, .bool false] 141)
          go_upto_region 5 with fail
          generalize wr.alloc (.cells #[.int .i64 2, .string ⟨#[]⟩, .string ⟨#[]⟩, .bool false, .string ⟨#[]⟩, .bool false, .bool false] 141) = Wl at *
          have b2 := b1.alloc b1.size (.cells #[.int .i64 1, .slice none 0 0] 157)
          have hx2 := heap_alloc_new Wl (.cells #[.int .i64 1, .slice none 0 0] 157)
          have HN := Lib.hid (Nodes_one (c := 1) (hLr.on b2) (lab := 1) (by simp) (Lib.cell_of_heap hx2 0) (Lib.cell_of_heap hx2 1))
          have HB2 := Lib.hid b2
          have x3 := Lib.cell_of_heap ((b1.block _ (show w.heap.size < wr.heap.size by omega)).trans hXr) 3
          have y0 := Lib.cell_of_heap hx1 0
          simp only [List.getElem?_toArray, List.getElem?_cons_zero, List.getElem?_cons_succ] at x3 y0
          have HR := Lib.hid (And.intro hS (And.intro hXr (And.intro hWr (And.intro hfar.out hbr))))
          clear b1 b2 hx2 hLr hXr hWr hS hbr hfar z0 z1 z2 z3 z4 z5 z6 hx1
          go_wp2_with fail
          refine HN.out.mono ?_
          rintro e W5 ⟨n, c5, rfl, ho5, b5⟩
          have hb5 := HB2.out.trans (b5.mono HB2.out.size)
          have hn5 := ho5.cells (g := n) rfl
          have m0 := hn5 0 _ rfl
          have m1 := hn5 1 _ rfl
          have m2 := hn5 2 _ rfl
          have m3 := hn5 3 _ rfl
          have m4 := hn5 4 _ rfl
          simp [Addr.add, nodT] at m0 m1 m2 m3 m4
          have hnl := (ho5.lt n rfl).2
          have b6 := (Below.refl _ W5).alloc (Nat.le_refl _) (.cells #[.int .i64 3, .string ⟨#[]⟩, .slice none 0 0, .string ⟨#[]⟩, .slice none 0 0] 28)
          have hx6 := heap_alloc_new W5 (.cells #[.int .i64 3, .string ⟨#[]⟩, .slice none 0 0, .string ⟨#[]⟩, .slice none 0 0] 28)
          have h5l := hb5.size
          clear x3 y0 hn5 ho5 b5 HN HB2
          go_wp2_with fail
          refine wp_loop_rounds 2 ?_
          rw [rounds_succ]
          go_upto_region 9 with fail
          generalize W5.alloc (.cells #[.int .i64 3, .string ⟨#[]⟩, .slice none 0 0, .string ⟨#[]⟩, .slice none 0 0] 28) = W6 at *
          obtain ⟨hS, hXr, hWr, hfar, hbr⟩ := HR.out
          have hb6 := hb5.trans (b6.mono h5l)
          have hX6 := (hb6.block _ (show w.heap.size < wr.heap.size by omega)).trans hXr
          have hW6 := (hb6.block _ (show gW < wr.heap.size by omega)).trans hWr
          have hS6 := (hb6.block _ (show gS < wr.heap.size by omega)).trans hS
          have s0 := Lib.cell_of_heap hW6 8
          have s1 := Lib.cell_of_heap hX6 0
          have s2 := Lib.cell_of_heap hX6 1
          have s3 := Lib.cell_of_heap hX6 2
          have s4 := Lib.cell_of_heap hx6 0
          have s5 := Lib.cell_of_heap hx6 1
          have s6 := Lib.cell_of_heap hx6 2
          have s7 := Lib.cell_of_heap hx6 3
          have s8 := Lib.cell_of_heap hx6 4
          have k0 := Lib.cell_of_heap hS6 1
          have fk0 := Lib.frozen_of_heap hS6 1
          simp only [wiCs, List.getElem?_toArray, List.getElem?_cons_zero, List.getElem?_cons_succ] at s0 s1 s2 s3 s4 s5 s6 s7 s8 k0
          have h6l := b6.size
          have h5w := (Array.getElem?_eq_some_iff.1 hx6).1
          have hXl := (Array.getElem?_eq_some_iff.1 hX6).1
          have hWl := (Array.getElem?_eq_some_iff.1 hW6).1
          have hSl := (Array.getElem?_eq_some_iff.1 hS6).1
          have HIN := Lib.hid (fun w' (hw' : Below W6.heap.size W6 w') => show Calls Tryz.prog 162 #[.agg #[.slice (some T) 1 cT, .slice none 0 0, .slice U 0 cU], .string ⟨#[]⟩, .agg #[.int .i64 3, .string ⟨#[]⟩, .slice none 0 0, .string ⟨#[]⟩, .slice none 0 0]] w' fun e w'' => e = .returned (.bool false) ∧ Below w'.heap.size w' w'' from by
            have h9 := Inside_any (w := w') (T := T) (U := U) (cT := cT) (cU := cU) (k := 3) (by simp) ⟨#[]⟩ (HTx.out w' (hbr.trans ((hb6.trans (hw'.mono hb6.size)).mono hbr.size))) (by have := hw'.size; have := hb6.size; omega)
            exact h9)
          have H6 := Lib.hid (And.intro hS6 (And.intro hb6 (And.intro hfar hbr)))
          have hne1 : gW ≠ gS := fun e => hn3 e.symm
          have hne2 : w.heap.size ≠ gS := by omega
          have hne3 : W5.heap.size ≠ gS := by omega
          have hne1' := Ne.symm hne1
          have hne2' := Ne.symm hne2
          have hne3' := Ne.symm hne3
          clear hS hXr hWr hX6 hW6 hS6 hb6 b6 hx6 m0 m1 m2 m3 m4 hb5 hfar hbr
          go_region_held3 (fun w' => w'.cell? ⟨gW, 8, none⟩ = some (.slice (some ⟨gS, 0, none⟩) 2 2) ∧ w'.cell? ⟨w.heap.size, 0, none⟩ = some (.slice (some T) 1 cT) ∧ w'.cell? ⟨w.heap.size, 1, none⟩ = some (.slice none 0 0) ∧ w'.cell? ⟨w.heap.size, 2, none⟩ = some (.slice U 0 cU) ∧ w'.cell? ⟨W5.heap.size, 0, none⟩ = some (.int .i64 3) ∧ w'.cell? ⟨W5.heap.size, 1, none⟩ = some (.string ⟨#[]⟩) ∧ w'.cell? ⟨W5.heap.size, 2, none⟩ = some (.slice none 0 0) ∧ w'.cell? ⟨W5.heap.size, 3, none⟩ = some (.string ⟨#[]⟩) ∧ w'.cell? ⟨W5.heap.size, 4, none⟩ = some (.slice none 0 0))
            (first
              | with_reducible exact ⟨s0, s1, s2, s3, s4, s5, s6, s7, s8⟩
              | with_reducible exact ⟨t0, t1, t2, t3, t4, t5, t6, t7, t8⟩
              | go_keep)
            (first
              | (go_at_call 162; refine (HIN.out _ (Below.drew (Below.refl _ W6))).mono ?_; rintro e WA ⟨rfl, br⟩; have hbA : Below W6.heap.size W6 WA := (Below.drew (Below.refl _ W6)).trans br; have t0 := (hbA.cell (p := ⟨gW, 8, none⟩) (by show gW < _; omega)).trans s0; have t1 := (hbA.cell (p := ⟨w.heap.size, 0, none⟩) (by show w.heap.size < _; omega)).trans s1; have t2 := (hbA.cell (p := ⟨w.heap.size, 1, none⟩) (by show w.heap.size < _; omega)).trans s2; have t3 := (hbA.cell (p := ⟨w.heap.size, 2, none⟩) (by show w.heap.size < _; omega)).trans s3; have t4 := (hbA.cell (p := ⟨W5.heap.size, 0, none⟩) (by show W5.heap.size < _; omega)).trans s4; have t5 := (hbA.cell (p := ⟨W5.heap.size, 1, none⟩) (by show W5.heap.size < _; omega)).trans s5; have t6 := (hbA.cell (p := ⟨W5.heap.size, 2, none⟩) (by show W5.heap.size < _; omega)).trans s6; have t7 := (hbA.cell (p := ⟨W5.heap.size, 3, none⟩) (by show W5.heap.size < _; omega)).trans s7; have t8 := (hbA.cell (p := ⟨W5.heap.size, 4, none⟩) (by show W5.heap.size < _; omega)).trans s8; have k1 := (hbA.cell (p := ⟨gS, 1, none⟩) hSl).trans k0; have fk1 := (hbA.frozen (p := ⟨gS, 1, none⟩) hSl).trans fk0))
          obtain ⟨hS6, hb6, hfar, hbr⟩ := H6.out
          have hSA := (hbA.block gS hSl).trans hS6
          have hset := heap_setCell_same WA gS 1 _ _ (.bool false) hSA
          have hbA6 := hb6.trans (hbA.mono hb6.size)
          have hREL := Lib.hid (show (WA.setCell ⟨gS, 1, none⟩ (.bool false)).heap[gS]? = some (.cells #[.bool (decide (0 < 2)), .bool false] 4 (0, 0)) ∧ (∀ q, q < W4.heap.size → q ≠ gS → (WA.setCell ⟨gS, 1, none⟩ (.bool false)).heap[q]? = W4.heap[q]?) ∧ W4.heap.size ≤ (WA.setCell ⟨gS, 1, none⟩ (.bool false)).heap.size ∧ Below W1.heap.size W1 (WA.setCell ⟨gS, 1, none⟩ (.bool false)) from by
            refine ⟨by simpa using hset, fun q hq hn => ?_, ?_, ?_⟩
            · rw [heap_set_other (p := ⟨gS, 1, none⟩) (show q ≠ gS from hn), hbA6.block q (by omega)]
              exact hfar q hq hn
            · rw [size_set]
              have := hbA6.size
              omega
            · exact (hbr.trans (hbA6.mono hbr.size)).setCell (p := ⟨gS, 1, none⟩) (by show W1.heap.size ≤ gS; omega) _)
          clear hS6 hb6 hfar hbr hSA hset hbA6 s0 s1 s2 s3 s4 s5 s6 s7 s8 k0 fk0 t0 t1 t2 t3 t4 t5 t6 t7 t8 k1 fk1 br hbA
          generalize WA.setCell ⟨gS, 1, none⟩ (.bool false) = W7 at *
          go_wp2_with fail
          rw [rounds_succ]
          go_wp2_with fail
          go_roundw
          case rel => exact ⟨2, 2, rfl, by go_num, by omega, hREL.out.1, Lib.hid hREL.out.2.1, hREL.out.2.2.1, hREL.out.2.2.2⟩
          case measure => simp [intOf]
end Go.Proofs.YtnkelhmjkmeilaaGreatDoor.H
end
