/- Plain: the automaton of alive's policy (text alone at the top); it does not differ from itself. compile.First and compile.Second at alive's policy: the automaton. compare.verdict at alive's policies: contained. compare.Diff at alive's policies: equivalent. sieve.read of alive's text twice, sieve.line, Stand; strainertop.alive. -/
import Derived.Test.YtnkelhmjkmeilaaGreatDoorT31
import Derived.Test.YtnkelhmjkmeilaaGreatDoorT45
section
namespace Go.Proofs.YtnkelhmjkmeilaaGreatDoor.H
open Go.RowKit
def aliveH : Hd := ⟨3, [⟨[[1, 1, 1], [1, 1, 1]], [0, 2]⟩, ⟨[[1, 1, 1], [1, 1, 1]], [1, 2]⟩], ⟨[[2, 3, 3], [2, 3, 3], [3, 3, 3], [3, 3, 3]], [1, 1, 1, 0]⟩⟩
theorem aliveH_ok : HdOk aliveH 4 := by
  refine ⟨by decide, fun s hs => ?_, ⟨by decide, by decide, by decide, by decide⟩, by decide, fun s hs => ?_, by decide, by decide⟩
  · simp only [aliveH, List.mem_cons, List.not_mem_nil, or_false] at hs
    rcases hs with rfl | rfl
    · exact ⟨by decide, by decide, by decide, by decide⟩
    · exact ⟨by decide, by decide, by decide, by decide⟩
  · simp only [aliveH, List.mem_cons, List.not_mem_nil, or_false] at hs
    rcases hs with rfl | rfl <;> decide
theorem same_none {h : Hd} {w w' : World} {e : Ending} (hO : HdOk h 4) (hr : LeastRet (andH h (notH h)).mc w e w') : e = .returned (.tuple #[.slice none 0 0, .bool false]) ∧ Below w.heap.size w w' := by
  obtain ⟨h1, h2⟩ := hr
  rcases h2 with ⟨A, c, l, _, _, _, h5, _, _⟩ | ⟨h2, _⟩
  · obtain ⟨e1, e2⟩ := differ_some hO hO rfl h5
    rw [e1] at e2
    cases e2
  · exact ⟨h2, h1⟩
end Go.Proofs.YtnkelhmjkmeilaaGreatDoor.H
end
section
namespace Go.Proofs.YtnkelhmjkmeilaaGreatDoor.H
open Go.RowKit
attribute [local go_sem ↓] Go.wp_at_zero Go.wp_at_succ
def AlvRet (w : World) (e : Ending) (w' : World) : Prop := ∃ A c B c1 C c2, e = .returned (.agg #[.int .i64 3, .slice A 2 c, .slice B 4 c1, .slice C 4 c2]) ∧ HdV w' (fun b => w.heap.size ≤ b ∧ b < w'.heap.size) aliveH A c B c1 C c2 ∧ Below w.heap.size w w'
theorem alv_ret {w w' : World} {e : Ending} (h : ∃ A c B c1 C c2, e = .returned (hdVal ⟨3, labsA, rootA⟩ A c B c1 C c2) ∧ HdV w' (fun b => w.heap.size ≤ b ∧ b < w'.heap.size) ⟨3, labsA, rootA⟩ A c B c1 C c2 ∧ Below w.heap.size w w') : AlvRet w e w' := h
set_option maxHeartbeats 4000000 in
set_option maxRecDepth 100000 in
theorem First_any {w : World} {T : Addr} {U : Option Addr} {cT cU g : Nat} (hL : LabsAt w g) (hT : w.cell? T = some (strV wText)) :
    Calls Tryz.prog 47 #[polV T cT U cU, .slice (some ⟨g, 0, none⟩) 2 2] w (AlvRet w) := by
  have hB1 := ((Below.refl _ w).alloc (Nat.le_refl _) (.cells #[.slice (some T) 1 cT, .slice none 0 0, .slice U 0 cU] 75)).alloc (by rw [World.size_alloc]; omega) (.cells #[.int .i64 0, .slice none 0 0, .slice none 0 0, .slice none 0 0] 115)
  have hx0 := (Below.heap_alloc _ (.cells #[.int .i64 0, .slice none 0 0, .slice none 0 0, .slice none 0 0] 115) w.heap.size (by rw [World.size_alloc]; omega)).trans (heap_alloc_new w (.cells #[.slice (some T) 1 cT, .slice none 0 0, .slice U 0 cU] 75))
  have hx2 := heap_alloc_new (w.alloc (.cells #[.slice (some T) 1 cT, .slice none 0 0, .slice U 0 cU] 75)) (.cells #[.int .i64 0, .slice none 0 0, .slice none 0 0, .slice none 0 0] 115)
  rw [World.size_alloc] at hx2
  unfold polV
  go_enter Tryz.func47, Tryz.ntmps47
  go_upto_region 1 with fail
  generalize (w.alloc (.cells #[.slice (some T) 1 cT, .slice none 0 0, .slice U 0 cU] 75)).alloc (.cells #[.int .i64 0, .slice none 0 0, .slice none 0 0, .slice none 0 0] 115) = W1 at *
  have x := fun j => Lib.cell_of_heap hx0 j
  have x0 := x 0
  have x1 := x 1
  have x2 := x 2
  simp only [List.getElem?_toArray, List.getElem?_cons_zero, List.getElem?_cons_succ] at x0 x1 x2
  have hl2 := (Array.getElem?_eq_some_iff.1 hx2).1
  have HX2 := Lib.hid hx2
  have HB1 := Lib.hid hB1
  have hT1 := (hB1.cell (World.block_lt_of_cell? w T hT)).trans hT
  have HC := Lib.hid (hedge_any (w := W1) (T := T) (U := U) (cT := cT) (cU := cU) (g := g) (fa := 78) (hL.on hB1) hT1)
  clear x hx0 hx2 hB1 hT1
  go_wp2_with fail
  refine HC.out.mono ?_
  rintro e W5 h
  obtain ⟨A, c, B, c1, C, c2, rfl, hV, b5⟩ := alv_ret h
  have hres := (b5.block (w.heap.size + 1) hl2).trans HX2.out
  have hw5 : Below w.heap.size w W5 := HB1.out.trans (b5.mono HB1.out.size)
  have hl5 := b5.size
  obtain ⟨r0, r1, r2, r3⟩ := four_of hres
  have e0 := Lib.frozen_of_heap hres 0
  have e1 := Lib.frozen_of_heap hres 1
  have e2 := Lib.frozen_of_heap hres 2
  have e3 := Lib.frozen_of_heap hres 3
  have HRES := Lib.hid hres
  have HW5 := Lib.hid hw5
  have HV := Lib.hid hV
  clear hres hw5 hV b5 h
  go_wp2
  refine ret_hd rfl rfl rfl (four_stored HRES.out _ _ _ _) ⟨A, c, B, c1, C, c2, rfl, (HV.out.keep fun p hp => World.cell?_of_block ?_).more fun b hb => ⟨by have := hb.1; have := HB1.out.size; omega, by simp only [size_set]; exact hb.2⟩, set4 HW5.out (Nat.le_succ _) _ _ _ _⟩
  have hq : p.block ≠ w.heap.size + 1 := by have := hp.1; omega
  rw [heap_set_other (p := ⟨w.heap.size + 1, 3, none⟩) hq, heap_set_other (p := ⟨w.heap.size + 1, 2, none⟩) hq, heap_set_other (p := ⟨w.heap.size + 1, 1, none⟩) hq, heap_set_other (p := ⟨w.heap.size + 1, 0, none⟩) hq]
set_option maxHeartbeats 4000000 in
set_option maxRecDepth 100000 in
theorem Second_any {w : World} {T : Addr} {U : Option Addr} {cT cU g : Nat} (hL : LabsAt w g) (hT : w.cell? T = some (strV wText)) :
    Calls Tryz.prog 49 #[polV T cT U cU, .slice (some ⟨g, 0, none⟩) 2 2] w (AlvRet w) := by
  have hB1 := ((Below.refl _ w).alloc (Nat.le_refl _) (.cells #[.slice (some T) 1 cT, .slice none 0 0, .slice U 0 cU] 75)).alloc (by rw [World.size_alloc]; omega) (.cells #[.int .i64 0, .slice none 0 0, .slice none 0 0, .slice none 0 0] 115)
  have hx0 := (Below.heap_alloc _ (.cells #[.int .i64 0, .slice none 0 0, .slice none 0 0, .slice none 0 0] 115) w.heap.size (by rw [World.size_alloc]; omega)).trans (heap_alloc_new w (.cells #[.slice (some T) 1 cT, .slice none 0 0, .slice U 0 cU] 75))
  have hx2 := heap_alloc_new (w.alloc (.cells #[.slice (some T) 1 cT, .slice none 0 0, .slice U 0 cU] 75)) (.cells #[.int .i64 0, .slice none 0 0, .slice none 0 0, .slice none 0 0] 115)
  rw [World.size_alloc] at hx2
  unfold polV
  go_enter Tryz.func49, Tryz.ntmps49
  go_upto_region 1 with fail
  generalize (w.alloc (.cells #[.slice (some T) 1 cT, .slice none 0 0, .slice U 0 cU] 75)).alloc (.cells #[.int .i64 0, .slice none 0 0, .slice none 0 0, .slice none 0 0] 115) = W1 at *
  have x := fun j => Lib.cell_of_heap hx0 j
  have x0 := x 0
  have x1 := x 1
  have x2 := x 2
  simp only [List.getElem?_toArray, List.getElem?_cons_zero, List.getElem?_cons_succ] at x0 x1 x2
  have hl2 := (Array.getElem?_eq_some_iff.1 hx2).1
  have HX2 := Lib.hid hx2
  have HB1 := Lib.hid hB1
  have hT1 := (hB1.cell (World.block_lt_of_cell? w T hT)).trans hT
  have HC := Lib.hid (hedge_any (w := W1) (T := T) (U := U) (cT := cT) (cU := cU) (g := g) (fa := 81) (hL.on hB1) hT1)
  clear x hx0 hx2 hB1 hT1
  go_wp2_with fail
  refine HC.out.mono ?_
  rintro e W5 h
  obtain ⟨A, c, B, c1, C, c2, rfl, hV, b5⟩ := alv_ret h
  have hres := (b5.block (w.heap.size + 1) hl2).trans HX2.out
  have hw5 : Below w.heap.size w W5 := HB1.out.trans (b5.mono HB1.out.size)
  have hl5 := b5.size
  obtain ⟨r0, r1, r2, r3⟩ := four_of hres
  have e0 := Lib.frozen_of_heap hres 0
  have e1 := Lib.frozen_of_heap hres 1
  have e2 := Lib.frozen_of_heap hres 2
  have e3 := Lib.frozen_of_heap hres 3
  have HRES := Lib.hid hres
  have HW5 := Lib.hid hw5
  have HV := Lib.hid hV
  clear hres hw5 hV b5 h
  go_wp2
  refine ret_hd rfl rfl rfl (four_stored HRES.out _ _ _ _) ⟨A, c, B, c1, C, c2, rfl, (HV.out.keep fun p hp => World.cell?_of_block ?_).more fun b hb => ⟨by have := hb.1; have := HB1.out.size; omega, by simp only [size_set]; exact hb.2⟩, set4 HW5.out (Nat.le_succ _) _ _ _ _⟩
  have hq : p.block ≠ w.heap.size + 1 := by have := hp.1; omega
  rw [heap_set_other (p := ⟨w.heap.size + 1, 3, none⟩) hq, heap_set_other (p := ⟨w.heap.size + 1, 2, none⟩) hq, heap_set_other (p := ⟨w.heap.size + 1, 1, none⟩) hq, heap_set_other (p := ⟨w.heap.size + 1, 0, none⟩) hq]
end Go.Proofs.YtnkelhmjkmeilaaGreatDoor.H
end
section
namespace Go.Proofs.YtnkelhmjkmeilaaGreatDoor.H
open Go.RowKit
attribute [local go_sem ↓] Go.wp_at_zero Go.wp_at_succ
theorem ret_vd {f : Func} {p : Tmp} (h : f.results = #[.cell p 89]) {a : Act} {w : World} {g : Nat} {R : Ending → World → Prop} (hp : a.tmps.getD p undef = .pointer (some ⟨g, 0, none⟩)) (hd : a.defers = [])
    (hg : w.heap[g]? = some (.cells #[.int .i64 1, .slice none 0 0] 89 (0, 0))) (hR : R (.returned (.agg #[.int .i64 1, .slice none 0 0])) w) : bodyPost Tryz.prog f R .ret a w := by
  have hc := fun j => Lib.cell_of_heap hg j
  have c0 := hc 0
  have c1 := hc 1
  simp only [List.getElem?_toArray, List.getElem?_cons_zero, List.getElem?_cons_succ] at c0 c1
  refine bodyPost_ret (v := .agg #[.int .i64 1, .slice none 0 0]) ?_ hd hR
  rw [results_cell1' h, hp]
  go_simp
theorem hd_go {w w' : World} {h : Hd} {A B C : Option Addr} {c c1 c2 lo : Nat} (H : HdV w (fun b => lo ≤ b ∧ b < w.heap.size) h A c B c1 C c2) (hb : Below w.heap.size w w') : HdV w' (fun b => lo ≤ b ∧ b < w'.heap.size) h A c B c1 C c2 :=
  (H.keep fun _p hp => hb.cell hp.2).more fun _b hb' => ⟨hb'.1, Nat.lt_of_lt_of_le hb'.2 hb.size⟩
def NvRet (w : World) (e : Ending) (w' : World) : Prop := ∃ A c B c1 C c2, e = .returned (.agg #[.int .i64 3, .slice A 2 c, .slice B 4 c1, .slice C 4 c2]) ∧ HdV w' (fun b => w.heap.size ≤ b ∧ b < w'.heap.size) (notH aliveH) A c B c1 C c2 ∧ Below w.heap.size w w'
theorem nv_ret {w w' : World} {e : Ending} (h : NotRet w aliveH e w') : NvRet w e w' := h
theorem NotA {w : World} {A B C : Option Addr} {c c1 c2 lo : Nat} (H : HdV w (fun b => lo ≤ b ∧ b < w.heap.size) aliveH A c B c1 C c2) : Calls Tryz.prog 48 #[.agg #[.int .i64 3, .slice A 2 c, .slice B 4 c1, .slice C 4 c2]] w (NvRet w) :=
  (show Calls Tryz.prog 48 #[.agg #[.int .i64 3, .slice A 2 c, .slice B 4 c1, .slice C 4 c2]] w (NotRet w aliveH) from Not_any (H.more fun b hb => hb.2) aliveH_ok (by decide)).mono fun e w' h => nv_ret h
theorem ComA {w : World} {A B C A' B' C' : Option Addr} {c c1 c2 d d1 d2 lo lo' : Nat} (H : HdV w (fun b => lo ≤ b ∧ b < w.heap.size) aliveH A c B c1 C c2) (H' : HdV w (fun b => lo' ≤ b ∧ b < w.heap.size) (notH aliveH) A' d B' d1 C' d2) :
    Calls Tryz.prog 46 #[.agg #[.int .i64 3, .slice A 2 c, .slice B 4 c1, .slice C 4 c2], .agg #[.int .i64 3, .slice A' 2 d, .slice B' 4 d1, .slice C' 4 d2]] w fun e w' => e = .returned (.tuple #[.slice none 0 0, .bool false]) ∧ Below w.heap.size w w' :=
  (show Calls Tryz.prog 46 #[.agg #[.int .i64 3, .slice A 2 c, .slice B 4 c1, .slice C 4 c2], .agg #[.int .i64 3, .slice A' 2 d, .slice B' 4 d1, .slice C' 4 d2]] w (LeastRet (andH aliveH (notH aliveH)).mc w) from
    Common_any (H.more fun _b hb => hb.2) (H'.more fun _b hb => hb.2) aliveH_ok (notH_ok aliveH_ok) rfl).mono fun _e _w' h => same_none aliveH_ok h
set_option maxHeartbeats 8000000 in
set_option maxRecDepth 100000 in
theorem verdict_any {w : World} {T T' : Addr} {U U' : Option Addr} {cT cU cT' cU' : Nat} (hT : w.cell? T = some (strV wText)) (hT' : w.cell? T' = some (strV wText)) :
    Calls Tryz.prog 37 #[polV T cT U cU, polV T' cT' U' cU'] w fun e w' => e = .returned (.agg #[.int .i64 1, .slice none 0 0]) ∧ Below w.heap.size w w' := by
  obtain ⟨W1, hW1⟩ : ∃ W1, W1 = (((w.alloc (.cells #[.slice (some T) 1 cT, .slice none 0 0, .slice U 0 cU] 75)).alloc (.cells #[.slice (some T') 1 cT', .slice none 0 0, .slice U' 0 cU'] 75)).alloc (.cells #[.int .i64 0, .slice none 0 0] 89)) := ⟨_, rfl⟩
  have h3 := al3 w #[.slice (some T) 1 cT, .slice none 0 0, .slice U 0 cU] #[.slice (some T') 1 cT', .slice none 0 0, .slice U' 0 cU'] #[.int .i64 0, .slice none 0 0] 75 75 89
  rw [← hW1] at h3
  obtain ⟨hx0, hx1, hx2, hB1⟩ := h3
  have HW1 := Lib.hid hW1
  have x := fun j => Lib.cell_of_heap hx0 j
  have x0 := x 0
  have x1 := x 1
  have x2 := x 2
  have y := fun j => Lib.cell_of_heap hx1 j
  have y0 := y 0
  have y1 := y 1
  have y2 := y 2
  simp only [List.getElem?_toArray, List.getElem?_cons_zero, List.getElem?_cons_succ] at x0 x1 x2 y0 y1 y2
  have hl2 := (Array.getElem?_eq_some_iff.1 hx2).1
  have HX2 := Lib.hid hx2
  have HB1 := Lib.hid hB1
  have HT := Lib.hid ((hB1.cell (World.block_lt_of_cell? w T hT)).trans hT)
  have HT' := Lib.hid ((hB1.cell (World.block_lt_of_cell? w T' hT')).trans hT')
  have HL := Lib.hid (Labels_none (w := W1) T T' U U' cT cT' cU cU')
  unfold polV at *
  clear x y hx0 hx1 hx2 hB1 hW1 hT hT'
  go_enter Tryz.func37, Tryz.ntmps37
  go_upto_region 1 with fail
  rw [← HW1.out]
  go_wp2_with fail
  refine HL.out.mono ?_
  rintro e W3 ⟨g, rfl, hL, _, b3⟩
  have hl3 := b3.size
  have r0 := fun w' (hw' : Below W3.heap.size W3 w') => (hw'.cell (p := ⟨w.heap.size, 0, none⟩) (by show w.heap.size < _; omega)).trans ((b3.cell (p := ⟨w.heap.size, 0, none⟩) (by show w.heap.size < _; omega)).trans x0)
  have r1 := fun w' (hw' : Below W3.heap.size W3 w') => (hw'.cell (p := ⟨w.heap.size, 1, none⟩) (by show w.heap.size < _; omega)).trans ((b3.cell (p := ⟨w.heap.size, 1, none⟩) (by show w.heap.size < _; omega)).trans x1)
  have r2 := fun w' (hw' : Below W3.heap.size W3 w') => (hw'.cell (p := ⟨w.heap.size, 2, none⟩) (by show w.heap.size < _; omega)).trans ((b3.cell (p := ⟨w.heap.size, 2, none⟩) (by show w.heap.size < _; omega)).trans x2)
  have s0 := fun w' (hw' : Below W3.heap.size W3 w') => (hw'.cell (p := ⟨w.heap.size + 1, 0, none⟩) (by show w.heap.size + 1 < _; omega)).trans ((b3.cell (p := ⟨w.heap.size + 1, 0, none⟩) (by show w.heap.size + 1 < _; omega)).trans y0)
  have s1 := fun w' (hw' : Below W3.heap.size W3 w') => (hw'.cell (p := ⟨w.heap.size + 1, 1, none⟩) (by show w.heap.size + 1 < _; omega)).trans ((b3.cell (p := ⟨w.heap.size + 1, 1, none⟩) (by show w.heap.size + 1 < _; omega)).trans y1)
  have s2 := fun w' (hw' : Below W3.heap.size W3 w') => (hw'.cell (p := ⟨w.heap.size + 1, 2, none⟩) (by show w.heap.size + 1 < _; omega)).trans ((b3.cell (p := ⟨w.heap.size + 1, 2, none⟩) (by show w.heap.size + 1 < _; omega)).trans y2)
  have HF := Lib.hid (fun (w' : World) (hw' : Below W3.heap.size W3 w') => First_any (cT := cT) (U := U) (cU := cU) (hL.on hw') ((hw'.cell (World.block_lt_of_cell? W3 T ((b3.cell (World.block_lt_of_cell? W1 T HT.out)).trans HT.out))).trans ((b3.cell (World.block_lt_of_cell? W1 T HT.out)).trans HT.out)))
  have HS := Lib.hid (fun (w' : World) (hw' : Below W3.heap.size W3 w') => Second_any (cT := cT') (U := U') (cU := cU') (hL.on hw') ((hw'.cell (World.block_lt_of_cell? W3 T' ((b3.cell (World.block_lt_of_cell? W1 T' HT'.out)).trans HT'.out))).trans ((b3.cell (World.block_lt_of_cell? W1 T' HT'.out)).trans HT'.out)))
  unfold polV at HF HS
  have HB3 := Lib.hid (HB1.out.trans (b3.mono HB1.out.size))
  have HX3 := Lib.hid ((b3.block _ hl2).trans HX2.out)
  have hb0 : Below W3.heap.size W3 W3 := Below.refl _ _
  clear x0 x1 x2 y0 y1 y2 hL b3
  go_upto_region 2 with fail
  go_cut [6, 7] (fun s6 s7 wx => s6 = .slice none 0 0 ∧ s7 = .bool false ∧ Below W3.heap.size W3 wx)
  case first =>
    go_region_held3 (fun w' => Below W3.heap.size W3 w')
      (repeat (first | assumption | with_reducible refine Below.drew ?_ | with_reducible refine bt (a := W3) ?_ br))
      (first
        | (go_at_call 47; refine (HF.out _ (by assumption)).mono ?_; rintro e WF ⟨A, c, B, c1, C, c2, rfl, hF, br⟩; have bF := br)
        | (go_at_call 49; refine (HS.out _ (by assumption)).mono ?_; rintro e WS ⟨A', d, B', d1, C', d2, rfl, hS, br⟩; have bS := br)
        | (go_at_call 48; refine (NotA (by first | with_reducible exact hS | with_reducible exact hd_go hS bF)).mono ?_; rintro e WN ⟨A2, e0, B2, e1, C2, e2, rfl, hN, br⟩; have bN := br)
        | (go_at_call 46; refine (ComA (by first | with_reducible exact hF | with_reducible exact hd_go hF bN | with_reducible exact hd_go (hd_go hF bS) bN) (by first | with_reducible exact hN | with_reducible exact hd_go hN bF)).mono ?_; rintro e WC ⟨rfl, br⟩))
    all_goals
      go_wp2_with fail
      go_meet
      rename_i hH
      exact ⟨rfl, rfl, hH⟩
  case rest =>
    obtain ⟨rfl, rfl, b4⟩ := hcut
    rename World => W4
    have hres := (b4.block (w.heap.size + 1 + 1) (by omega)).trans HX3.out
    have k := fun j => Lib.cell_of_heap hres j
    have k0 := k 0
    have k1 := k 1
    have e0 := Lib.frozen_of_heap hres 0
    have e1 := Lib.frozen_of_heap hres 1
    simp only [List.getElem?_toArray, List.getElem?_cons_zero, List.getElem?_cons_succ] at k0 k1
    have HRES := Lib.hid hres
    have HW4 := Lib.hid (HB3.out.trans (b4.mono HB3.out.size))
    clear k hres b4 r0 r1 r2 s0 s1 s2 HF HS hb0
    go_wp2
    exact ret_vd rfl rfl rfl (two_stored HRES.out _ _) ⟨rfl, (HW4.out.setCell (p := ⟨w.heap.size + 1 + 1, 0, none⟩) (by show w.heap.size ≤ w.heap.size + 1 + 1; omega) _).setCell (p := ⟨w.heap.size + 1 + 1, 1, none⟩) (by show w.heap.size ≤ w.heap.size + 1 + 1; omega) _⟩
end Go.Proofs.YtnkelhmjkmeilaaGreatDoor.H
end
section
namespace Go.Proofs.YtnkelhmjkmeilaaGreatDoor.H
open Go.RowKit
attribute [local go_sem ↓] Go.wp_at_zero Go.wp_at_succ
theorem truth_one (w : World) : Calls Tryz.prog 36 #[.bool true] w fun e w' => e = .returned (.int .i64 1) ∧ w' = w := by
  go_enter Tryz.func36, Tryz.ntmps36
  go_wp2
  go_ret
  exact ⟨rfl, rfl⟩
theorem fld_vd (a b : Value) (w : World) : (Instr.field 89 (.agg #[a, b]) 0).run Tryz.prog w = .ok a w := by kernel_rfl
def Pl (T T' : Addr) (U U' : Option Addr) (cT cU cT' cU' : Nat) (v : Value) : Prop := v = .agg #[.slice (some T) 1 cT, .slice none 0 0, .slice U 0 cU] ∨ v = .agg #[.slice (some T') 1 cT', .slice none 0 0, .slice U' 0 cU']
set_option maxHeartbeats 8000000 in
set_option maxRecDepth 100000 in
theorem Diff_any {w : World} {T T' : Addr} {U U' : Option Addr} {cT cU cT' cU' : Nat} (hT : w.cell? T = some (strV wText)) (hT' : w.cell? T' = some (strV wText)) :
    Calls Tryz.prog 30 #[polV T cT U cU, polV T' cT' U' cU'] w fun e w' => e = .returned (.int .i64 1) ∧ Below w.heap.size w w' := by
  obtain ⟨W1, hW1⟩ : ∃ W1, W1 = ((w.alloc (.cells #[.slice (some T) 1 cT, .slice none 0 0, .slice U 0 cU] 75)).alloc (.cells #[.slice (some T') 1 cT', .slice none 0 0, .slice U' 0 cU'] 75)) := ⟨_, rfl⟩
  have hx0 : W1.heap[w.heap.size]? = some (.cells #[.slice (some T) 1 cT, .slice none 0 0, .slice U 0 cU] 75 (0, 0)) := by
    rw [hW1]
    exact (Below.heap_alloc _ _ _ (by rw [World.size_alloc]; omega)).trans (heap_alloc_new w _)
  have hx1 : W1.heap[w.heap.size + 1]? = some (.cells #[.slice (some T') 1 cT', .slice none 0 0, .slice U' 0 cU'] 75 (0, 0)) := by
    have h9 := heap_alloc_new (w.alloc (.cells #[.slice (some T) 1 cT, .slice none 0 0, .slice U 0 cU] 75)) (.cells #[.slice (some T') 1 cT', .slice none 0 0, .slice U' 0 cU'] 75)
    rw [World.size_alloc] at h9
    rw [hW1]
    exact h9
  have hB1 : Below w.heap.size w W1 := by
    rw [hW1]
    exact ((Below.refl _ w).alloc (Nat.le_refl _) _).alloc (by rw [World.size_alloc]; omega) _
  have HW1 := Lib.hid hW1
  have x := fun j => Lib.cell_of_heap hx0 j
  have x0 := x 0
  have x1 := x 1
  have x2 := x 2
  have y := fun j => Lib.cell_of_heap hx1 j
  have y0 := y 0
  have y1 := y 1
  have y2 := y 2
  simp only [List.getElem?_toArray, List.getElem?_cons_zero, List.getElem?_cons_succ] at x0 x1 x2 y0 y1 y2
  have hl1 := (Array.getElem?_eq_some_iff.1 hx1).1
  have HB1 := Lib.hid hB1
  have HT := Lib.hid ((hB1.cell (World.block_lt_of_cell? w T hT)).trans hT)
  have HT' := Lib.hid ((hB1.cell (World.block_lt_of_cell? w T' hT')).trans hT')
  unfold polV at *
  clear x y hx0 hx1 hB1 hW1 hT hT'
  go_enter Tryz.func30, Tryz.ntmps30
  go_upto_region 1 with fail
  rw [← HW1.out]
  go_upto_region 2 with fail
  have b2 := (Below.refl _ W1).alloc (Nat.le_refl _) (.cells #[.int .i64 4, .int .i64 3, .int .i64 2, .int .i64 1] 86)
  have hx2 := heap_alloc_new W1 (.cells #[.int .i64 4, .int .i64 3, .int .i64 2, .int .i64 1] 86)
  generalize W1.alloc _ = W3 at *
  have hl2 := (Array.getElem?_eq_some_iff.1 hx2).1
  have hl3 := b2.size
  have z3 := Lib.cell_of_heap hx2 3
  simp only [List.getElem?_toArray, List.getElem?_cons_zero, List.getElem?_cons_succ] at z3
  have r0 := fun w' (hw' : Below W3.heap.size W3 w') => (hw'.cell (p := ⟨w.heap.size, 0, none⟩) (by show w.heap.size < _; omega)).trans ((b2.cell (p := ⟨w.heap.size, 0, none⟩) (by show w.heap.size < _; omega)).trans x0)
  have r1 := fun w' (hw' : Below W3.heap.size W3 w') => (hw'.cell (p := ⟨w.heap.size, 1, none⟩) (by show w.heap.size < _; omega)).trans ((b2.cell (p := ⟨w.heap.size, 1, none⟩) (by show w.heap.size < _; omega)).trans x1)
  have r2 := fun w' (hw' : Below W3.heap.size W3 w') => (hw'.cell (p := ⟨w.heap.size, 2, none⟩) (by show w.heap.size < _; omega)).trans ((b2.cell (p := ⟨w.heap.size, 2, none⟩) (by show w.heap.size < _; omega)).trans x2)
  have s0 := fun w' (hw' : Below W3.heap.size W3 w') => (hw'.cell (p := ⟨w.heap.size + 1, 0, none⟩) (by show w.heap.size + 1 < _; omega)).trans ((b2.cell (p := ⟨w.heap.size + 1, 0, none⟩) (by show w.heap.size + 1 < _; omega)).trans y0)
  have s1 := fun w' (hw' : Below W3.heap.size W3 w') => (hw'.cell (p := ⟨w.heap.size + 1, 1, none⟩) (by show w.heap.size + 1 < _; omega)).trans ((b2.cell (p := ⟨w.heap.size + 1, 1, none⟩) (by show w.heap.size + 1 < _; omega)).trans y1)
  have s2 := fun w' (hw' : Below W3.heap.size W3 w') => (hw'.cell (p := ⟨w.heap.size + 1, 2, none⟩) (by show w.heap.size + 1 < _; omega)).trans ((b2.cell (p := ⟨w.heap.size + 1, 2, none⟩) (by show w.heap.size + 1 < _; omega)).trans y2)
  have q3 := fun w' (hw' : Below W3.heap.size W3 w') => (hw'.cell (p := ⟨W1.heap.size, 3, none⟩) hl2).trans z3
  have hT3 : ∀ w', Below W3.heap.size W3 w' → w'.cell? T = some (strV wText) := fun w' hw' => (hw'.cell (World.block_lt_of_cell? W3 T ((b2.cell (World.block_lt_of_cell? W1 T HT.out)).trans HT.out))).trans ((b2.cell (World.block_lt_of_cell? W1 T HT.out)).trans HT.out)
  have hT3' : ∀ w', Below W3.heap.size W3 w' → w'.cell? T' = some (strV wText) := fun w' hw' => (hw'.cell (World.block_lt_of_cell? W3 T' ((b2.cell (World.block_lt_of_cell? W1 T' HT'.out)).trans HT'.out))).trans ((b2.cell (World.block_lt_of_cell? W1 T' HT'.out)).trans HT'.out)
  have HV : Hid (∀ w', Below W3.heap.size W3 w' → ∀ a b, Pl T T' U U' cT cU cT' cU' a → Pl T T' U U' cT cU cT' cU' b → Calls Tryz.prog 37 #[a, b] w' fun e w'' => e = .returned (.agg #[.int .i64 1, .slice none 0 0]) ∧ Below w'.heap.size w' w'') := Lib.hid fun w' hw' a b ha hb => by
    rcases ha with rfl | rfl <;> rcases hb with rfl | rfl
    · exact verdict_any (hT3 w' hw') (hT3 w' hw')
    · exact verdict_any (hT3 w' hw') (hT3' w' hw')
    · exact verdict_any (hT3' w' hw') (hT3 w' hw')
    · exact verdict_any (hT3' w' hw') (hT3' w' hw')
  have hp1 : Pl T T' U U' cT cU cT' cU' (.agg #[.slice (some T) 1 cT, .slice none 0 0, .slice U 0 cU]) := Or.inl rfl
  have hp2 : Pl T T' U U' cT cU cT' cU' (.agg #[.slice (some T') 1 cT', .slice none 0 0, .slice U' 0 cU']) := Or.inr rfl
  have HB3 := Lib.hid (HB1.out.trans (b2.mono HB1.out.size))
  have hb0 : Below W3.heap.size W3 W3 := Below.refl _ _
  have fv := fld_vd
  clear x0 x1 x2 y0 y1 y2 b2 hT3 hT3' z3 hx2
  go_cut [4] (fun s4 wx => s4 = .int .i64 1 ∧ Below W3.heap.size W3 wx)
  case first =>
    go_region_held3 (fun w' => Below W3.heap.size W3 w')
      (repeat (first | assumption | with_reducible refine Below.drew ?_ | with_reducible refine bt (a := W3) ?_ br))
      (first
        | (go_at_call 37; refine (HV.out _ (by assumption) _ _ (by first | with_reducible exact hp1 | with_reducible exact hp2) (by first | with_reducible exact hp1 | with_reducible exact hp2)).mono ?_; rintro e WV ⟨rfl, br⟩)
        | (go_at_call 36; refine (truth_one _).mono ?_; rintro e WT ⟨rfl, rfl⟩))
    all_goals
      go_wp2_with fail
      go_meet
      rename_i hH
      exact ⟨rfl, hH⟩
  case rest =>
    obtain ⟨rfl, b4⟩ := hcut
    rename World => W4
    have HW4 := Lib.hid (HB3.out.trans (b4.mono HB3.out.size))
    clear b4 r0 r1 r2 s0 s1 s2 q3 HV hb0
    go_wp2
    go_ret
    exact ⟨rfl, HW4.out⟩
end Go.Proofs.YtnkelhmjkmeilaaGreatDoor.H
end
section
namespace Go.Proofs.YtnkelhmjkmeilaaGreatDoor.H
open Go.RowKit
attribute [local go_sem ↓] Go.wp_at_zero Go.wp_at_succ
theorem infoPo : (Tryz.prog.info? 75).map (fun i => (i.zero, i.size, i.bytes)) = some (some (.agg #[.slice none 0 0, .slice none 0 0, .slice none 0 0]), 3, 72) := by kernel_rfl
theorem rowPo : Row Tryz.prog 65 75 3 72 := by
  obtain ⟨i, hi, hz, h1, h2⟩ := info_parts infoPo
  exact ⟨Tryz.underlying65, ⟨i, _, hi, hz, h1, h2, rfl⟩, by decide⟩
theorem results_tmp_cell {fn : Func} {p u : Tmp} {ty : TypeId} (h : fn.results = #[.tmp u, .cell p ty]) (tmps : Array Value) (P : Program) (w : World) :
    (results fn tmps).run P w = ((asAddr (tmps.getD p undef)).run P w).andThen fun a w₁ => ((loadVar ty a).run P w₁).andThen fun v w₂ => .ok (.tuple #[tmps.getD u undef, v]) w₂ := by
  simp only [results, h]
  simp [Sem.run_bind, Result.andThen]
theorem ret_rf {f : Func} {p u : Tmp} (h : f.results = #[.tmp u, .cell p 68]) {a : Act} {w : World} {g : Nat} {v0 v1 v2 x : Value} {R : Ending → World → Prop} (hp : a.tmps.getD p undef = .pointer (some ⟨g, 0, none⟩)) (hx : a.tmps.getD u undef = x) (hd : a.defers = [])
    (hg : w.heap[g]? = some (.cells #[v0, v1, v2] 68 (0, 0))) (hR : R (.returned (.tuple #[x, .agg #[v0, v1, v2]])) w) : bodyPost Tryz.prog f R .ret a w := by
  have hc := fun j => Lib.cell_of_heap hg j
  have c0 := hc 0
  have c1 := hc 1
  have c2 := hc 2
  simp only [List.getElem?_toArray, List.getElem?_cons_zero, List.getElem?_cons_succ] at c0 c1 c2
  refine bodyPost_ret (v := .tuple #[x, .agg #[v0, v1, v2]]) ?_ hd hR
  rw [results_tmp_cell h, hp, hx]
  go_simp
theorem three_storedA {W : World} {g : Nat} {a0 a1 a2 : Value} {T : TypeId} (h : W.heap[g]? = some (.cells #[a0, a1, a2] T (0, 0))) (v0 v1 v2 : Value) :
    (((W.setCell ⟨g, 0, none⟩ v0).setCell ⟨g, 1, none⟩ v1).setCell ⟨g, 2, none⟩ v2).heap[g]? = some (.cells #[v0, v1, v2] T (0, 0)) := by
  have h0 := heap_setCell_same W g 0 _ _ v0 h
  have h1 := heap_setCell_same _ g 1 _ _ v1 h0
  have h2 := heap_setCell_same _ g 2 _ _ v2 h1
  simpa using h2
def ReadRet (w : World) (e : Ending) (w' : World) : Prop := ∃ (g c : Nat) (T : Addr) (cT : Nat) (U : Option Addr) (cU : Nat) (T' : Addr) (cT' : Nat) (U' : Option Addr) (cU' : Nat), e = .returned (.tuple #[.slice (some ⟨g, 0, none⟩) 2 c, .agg #[.int .i64 0, .int .i64 0, .int .i64 0]]) ∧
  w'.ownsRow w.heap.size 75 3 (.slice (some ⟨g, 0, none⟩) 2 c) 2 [.slice (some T) 1 cT, .slice none 0 0, .slice U 0 cU, .slice (some T') 1 cT', .slice none 0 0, .slice U' 0 cU'] ∧ w'.cell? T = some (strV wText) ∧ w'.cell? T' = some (strV wText) ∧ Below w.heap.size w w'
set_option maxHeartbeats 8000000 in
set_option maxRecDepth 100000 in
theorem read_two {w : World} {q : Nat} (h0 : w.cell? ⟨q, 0, none⟩ = some (.string ⟨alL.toArray⟩)) (h1 : w.cell? ⟨q, 1, none⟩ = some (.string ⟨alL.toArray⟩)) (hq : q < w.heap.size) :
    Calls Tryz.prog 28 #[.slice (some ⟨q, 0, none⟩) 2 2] w (ReadRet w) := by
  have b1 := (Below.refl _ w).alloc (Nat.le_refl _) (.cells #[.int .i64 0, .int .i64 0, .int .i64 0] 68)
  have hx1 := heap_alloc_new w (.cells #[.int .i64 0, .int .i64 0, .int .i64 0] 68)
  have hs1 := World.size_alloc w (.cells #[.int .i64 0, .int .i64 0, .int .i64 0] 68)
  have hAL : ∃ al, al = alL := ⟨_, rfl⟩
  obtain ⟨al, hal⟩ := hAL
  rw [← hal] at h0 h1
  have HP := Lib.hid (fun W => Parse_one W)
  rw [← hal] at HP
  clear hal
  go_enter Tryz.func28, Tryz.ntmps28
  go_upto_region 2 with fail
  generalize w.alloc _ = W1 at *
  have q0 := (b1.cell (p := ⟨q, 0, none⟩) hq).trans h0
  have q1 := (b1.cell (p := ⟨q, 1, none⟩) hq).trans h1
  have hq1 : q < W1.heap.size := by omega
  have HB1 := Lib.hid b1
  have HX1 := Lib.hid hx1
  clear b1 hx1 h0 h1
  go_wp2_with fail
  refine wp_loop_rounds 3 ?_
  rw [rounds_succ]
  go_wp2_with fail
  refine (HP.out _).mono ?_
  rintro e W2 ⟨T, cT, U, cU, rfl, hT, hTb, b2⟩
  have hTl := World.block_lt_of_cell? W2 T hT
  have b3 := (Below.refl _ W2).alloc (Nat.le_refl _) (.cells #[.slice (some T) 1 cT, .slice none 0 0, .slice U 0 cU] 75)
  have hx3 := heap_alloc_new W2 (.cells #[.slice (some T) 1 cT, .slice none 0 0, .slice U 0 cU] 75)
  unfold polV
  go_upto_region 8 with fail
  generalize W2.alloc _ = W3 at *
  have b13 : Below W1.heap.size W1 W3 := b2.trans (b3.mono b2.size)
  have hs3 := b13.size
  have hown0 := World.ownsRow_nil W3 W1.heap.size 75 3
  have x := fun j => Lib.cell_of_heap hx3 j
  have x0 := x 0
  have x1 := x 1
  have x2 := x 2
  simp only [List.getElem?_toArray, List.getElem?_cons_zero, List.getElem?_cons_succ] at x0 x1 x2
  have hT3 := (b3.cell hTl).trans hT
  have HT3 := Lib.hid hT3
  have hTl3 := World.block_lt_of_cell? W3 T hT3
  have HQ0 := Lib.hid (show W3.cell? ⟨q, 1, none⟩ = _ from (b13.cell (p := ⟨q, 1, none⟩) hq1).trans q1)
  have HB13 := Lib.hid b13
  clear x hT b2 b3 hx3 b13 hT3 q0 q1 hTl
  go_wp2_with (at_builtin; go_must (refine wpList_push_at rfl _ _ _ rfl W1.heap.size rowPo none 0 0 [] rfl hown0 [.slice (some T) 1 cT, .slice none 0 0, .slice U 0 cU] _ rfl rfl (by simp [Value.oneCell']) (by unfold maxLen; omega) (by omega) hs3 ?_); intro A5 c5 W5 hc5 ho5 hg5 hat5)
  have ho5' : W5.ownsRow W1.heap.size 75 3 (.slice A5 1 c5) 1 [.slice (some T) 1 cT, .slice none 0 0, .slice U 0 cU] := ho5
  have hqq : q < W3.heap.size := Nat.lt_of_lt_of_le hq1 hs3
  have q5 := (World.cell?_of_block (a := ⟨q, 1, none⟩) (hg5.block q hqq (fun e => by cases e))).trans HQ0.out
  have hT5 := (World.cell?_of_block (a := T) (hg5.block T.block hTl3 (fun e => by cases e))).trans HT3.out
  have b15 : Below W1.heap.size W1 W5 := HB13.out.grown hg5 hs3 (fun k hk => by cases hk)
  obtain ⟨g5, cap5, hv5, _, hgl5⟩ := ho5'.form (Nat.succ_pos _)
  obtain rfl : A5 = some ⟨g5, 0, none⟩ := by injection hv5
  have hTg : T.block < g5 := by
    rcases hat5 g5 rfl with h | h
    · cases h
    · omega
  have HO5 := Lib.hid ho5'
  have HT5 := Lib.hid hT5
  have HB15 := Lib.hid b15
  have hs5 := b15.size
  have hTl5 := World.block_lt_of_cell? W5 T hT5
  clear ho5 ho5' hg5 hat5 hown0 x0 x1 x2 hv5 hT5 b15 hc5
  rw [rounds_succ]
  go_wp2_with fail
  refine (HP.out _).mono ?_
  rintro e W6 ⟨T', cT', U', cU', rfl, hT', hTb', b6⟩
  have hTl' := World.block_lt_of_cell? W6 T' hT'
  have b7 := (Below.refl _ W6).alloc (Nat.le_refl _) (.cells #[.slice (some T') 1 cT', .slice none 0 0, .slice U' 0 cU'] 75)
  have hx7 := heap_alloc_new W6 (.cells #[.slice (some T') 1 cT', .slice none 0 0, .slice U' 0 cU'] 75)
  unfold polV
  go_upto_region 8 with fail
  generalize W6.alloc _ = W7 at *
  have b57 : Below W5.heap.size W5 W7 := b6.trans (b7.mono b6.size)
  have hs7 : W1.heap.size ≤ W7.heap.size := Nat.le_trans hs5 b57.size
  have hown7 := own_below HO5.out b57 (Nat.le_refl _)
  have x := fun j => Lib.cell_of_heap hx7 j
  have x0 := x 0
  have x1 := x 1
  have x2 := x 2
  simp only [List.getElem?_toArray, List.getElem?_cons_zero, List.getElem?_cons_succ] at x0 x1 x2
  have hT7' := (b7.cell hTl').trans hT'
  have hT7 := (b57.cell hTl5).trans HT5.out
  have HT7 := Lib.hid (And.intro hT7 hT7')
  have hTl7 := World.block_lt_of_cell? W7 T hT7
  have hTl7' := World.block_lt_of_cell? W7 T' hT7'
  have HB57 := Lib.hid b57
  clear x hT' b6 b7 hx7 b57 hT7 hT7' q5 hTl'
  go_wp2_with (at_builtin; go_must (refine wpList_push_at rfl _ _ _ rfl W1.heap.size rowPo (some ⟨g5, 0, none⟩) 1 c5 [.slice (some T) 1 cT, .slice none 0 0, .slice U 0 cU] rfl hown7 [.slice (some T') 1 cT', .slice none 0 0, .slice U' 0 cU'] _ rfl rfl (by simp [Value.oneCell']) (by unfold maxLen; omega) (by omega) hs7 ?_); intro A9 c9 W9 hc9 ho9 hg9 hat9)
  have ho9' : W9.ownsRow W1.heap.size 75 3 (.slice A9 2 c9) 2 [.slice (some T) 1 cT, .slice none 0 0, .slice U 0 cU, .slice (some T') 1 cT', .slice none 0 0, .slice U' 0 cU'] := ho9
  have hT9 := (World.cell?_of_block (a := T) (hg9.block T.block hTl7 (fun e => by have e' : some T.block = some g5 := e; injection e'; omega))).trans HT7.out.1
  have hT9' := (World.cell?_of_block (a := T') (hg9.block T'.block hTl7' (fun e => by have e' : some T'.block = some g5 := e; injection e'; omega))).trans HT7.out.2
  have hg5b := (HO5.out.lt g5 rfl).1
  have b19 : Below W1.heap.size W1 W9 := (HB15.out.trans (HB57.out.mono hs5)).grown hg9 hs7 (fun k hk => by have e' : some g5 = some k := hk; injection e' with e'; omega)
  obtain ⟨g9, cap9, hv9, _, hgl9⟩ := ho9'.form (Nat.succ_pos _)
  obtain rfl : A9 = some ⟨g9, 0, none⟩ := by injection hv9
  have hx9 := (b19.block w.heap.size (by omega)).trans HX1.out
  have hs9 := b19.size
  have z := fun j => Lib.cell_of_heap hx9 j
  have z0 := z 0
  have z1 := z 1
  have z2 := z 2
  have f0 := Lib.frozen_of_heap hx9 0
  have f1 := Lib.frozen_of_heap hx9 1
  have f2 := Lib.frozen_of_heap hx9 2
  simp only [List.getElem?_toArray, List.getElem?_cons_zero, List.getElem?_cons_succ] at z0 z1 z2
  have HX9 := Lib.hid hx9
  have HO9 := Lib.hid ho9'
  have HT9 := Lib.hid (And.intro hT9 hT9')
  have HW9 := Lib.hid (HB1.out.trans (b19.mono HB1.out.size))
  clear z hx9 ho9 ho9' hT9 hT9' b19 hg9 hat9 hc9 hv9 x0 x1 x2 hown7
  rw [rounds_succ]
  go_wp2
  have hoth : ∀ q, q ≠ w.heap.size → (((W9.setCell ⟨w.heap.size, 0, none⟩ (.int .i64 0)).setCell ⟨w.heap.size, 1, none⟩ (.int .i64 0)).setCell ⟨w.heap.size, 2, none⟩ (.int .i64 0)).heap[q]? = W9.heap[q]? := fun q hq => by
    rw [heap_set_other (p := ⟨w.heap.size, 2, none⟩) hq, heap_set_other (p := ⟨w.heap.size, 1, none⟩) hq, heap_set_other (p := ⟨w.heap.size, 0, none⟩) hq]
  refine ret_rf rfl rfl rfl rfl (three_storedA HX9.out _ _ _) ⟨g9, c9, T, cT, U, cU, T', cT', U', cU', rfl, ?_, ?_, ?_, ?_⟩
  · have h9 := own_fr (own_fr (own_fr HO9.out (p := ⟨w.heap.size, 0, none⟩) (by show w.heap.size < _; omega) (.int .i64 0)) (p := ⟨w.heap.size, 1, none⟩) (by show w.heap.size < _; omega) (.int .i64 0)) (p := ⟨w.heap.size, 2, none⟩) (by show w.heap.size < _; omega) (.int .i64 0)
    exact own_lw h9 (by omega)
  · exact (World.cell?_of_block (hoth T.block (by omega))).trans HT9.out.1
  · exact (World.cell?_of_block (hoth T'.block (by omega))).trans HT9.out.2
  · exact ((HW9.out.setCell (p := ⟨w.heap.size, 0, none⟩) (Nat.le_refl _) _).setCell (p := ⟨w.heap.size, 1, none⟩) (Nat.le_refl _) _).setCell (p := ⟨w.heap.size, 2, none⟩) (Nat.le_refl _) _
end Go.Proofs.YtnkelhmjkmeilaaGreatDoor.H
end
