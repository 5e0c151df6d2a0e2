/- Common. -/
import Derived.Test.YtbipdnnalhdoaaaHX
import Derived.Test.YtbipdnnalhdoaaaHu
namespace Go.Proofs.Ytbipdnnalhdoaaa
open Go.RowKit Go.Maps Go.WideMaps
attribute [local go_sem ↓] Go.wp_at_zero Go.wp_at_succ

set_option maxHeartbeats 2000000 in
set_option maxRecDepth 100000 in
theorem Common_any {w : World} {g h : Hd} {A B C A' B' C' : Option Addr} {c c1 c2 d d1 d2 : Nat} (H : HdV w (fun b => b < w.heap.size) g A c B c1 C c2) (H' : HdV w (fun b => b < w.heap.size) h A' d B' d1 C' d2) (hO : HdOk g 4) (hO' : HdOk h 4) (hL : g.labs.length = h.labs.length) :
    Calls Try.prog 28 #[hdVal g A c B c1 C c2, hdVal h A' d B' d1 C' d2] w (LeastRet (andH g h).mc w) := by
  have HLL := Lib.hid hL
  have he0 : ((g.labs.length : Int) == (h.labs.length : Int)) = true := by rw [hL]; simp
  have he1 : ((g.labs.length : Int) != (h.labs.length : Int)) = false := by rw [hL]; simp
  clear hL
  have hB0 := (Below.refl _ w).alloc (Nat.le_refl _) (.cells #[.int .i64 g.K, .slice A g.labs.length c, .slice B g.root.nx.length c1, .slice C g.root.out.length c2] 28)
  have hx0 := heap_alloc_new w (.cells #[.int .i64 g.K, .slice A g.labs.length c, .slice B g.root.nx.length c1, .slice C g.root.out.length c2] 28)
  have hs0 : (w.alloc (.cells #[.int .i64 g.K, .slice A g.labs.length c, .slice B g.root.nx.length c1, .slice C g.root.out.length c2] 28)).heap.size = w.heap.size + 1 := World.size_alloc _ _
  have hB1 := hB0.alloc (by omega) (.cells #[.int .i64 h.K, .slice A' h.labs.length d, .slice B' h.root.nx.length d1, .slice C' h.root.out.length d2] 28)
  have hx1 := heap_alloc_new (w.alloc (.cells #[.int .i64 g.K, .slice A g.labs.length c, .slice B g.root.nx.length c1, .slice C g.root.out.length c2] 28)) (.cells #[.int .i64 h.K, .slice A' h.labs.length d, .slice B' h.root.nx.length d1, .slice C' h.root.out.length d2] 28)
  have hx0' := (Below.heap_alloc (w.alloc (.cells #[.int .i64 g.K, .slice A g.labs.length c, .slice B g.root.nx.length c1, .slice C g.root.out.length c2] 28)) (.cells #[.int .i64 h.K, .slice A' h.labs.length d, .slice B' h.root.nx.length d1, .slice C' h.root.out.length d2] 28) w.heap.size (by omega)).trans hx0
  rw [hs0] at hx1
  go_enter Try.func28, Try.ntmps28
  go_upto_region 1 with fail
  generalize (w.alloc (.cells #[.int .i64 g.K, .slice A g.labs.length c, .slice B g.root.nx.length c1, .slice C g.root.out.length c2] 28)).alloc (.cells #[.int .i64 h.K, .slice A' h.labs.length d, .slice B' h.root.nx.length d1, .slice C' h.root.out.length d2] 28) = W1 at *
  have x0 := Lib.cell_of_heap hx0' 0
  have x1 := Lib.cell_of_heap hx0' 1
  have x2 := Lib.cell_of_heap hx0' 2
  have x3 := Lib.cell_of_heap hx0' 3
  have y0 := Lib.cell_of_heap hx1 0
  have y1 := Lib.cell_of_heap hx1 1
  have y2 := Lib.cell_of_heap hx1 2
  have y3 := Lib.cell_of_heap hx1 3
  simp only [List.getElem?_toArray, List.getElem?_cons_zero, List.getElem?_cons_succ] at x0 x1 x2 x3 y0 y1 y2 y3
  have hwl0 := (Array.getElem?_eq_some_iff.1 hx0').1
  have hwl1 := (Array.getElem?_eq_some_iff.1 hx1).1
  have HB := Lib.hid hB1
  have HV := Lib.hid (H.on hB1)
  have HV' := Lib.hid (H'.on hB1)
  have HX := Lib.hid (And.intro hx0' hx1)
  clear hB0 hB1 hx0 hx1 hx0' hs0 H H'
  have HS := Lib.hid (sound_any HV.out)
  go_wp2_with fail
  refine HS.out.mono ?_
  rintro e W2 ⟨b, rfl, hb, b2⟩
  obtain rfl : b = true := hb.2 hO.sound
  have hx2 := (b2.block _ hwl0).trans HX.out.1
  have hx3 := (b2.block _ hwl1).trans HX.out.2
  have HB2 := Lib.hid (HB.out.trans (b2.mono HB.out.size))
  have HV2 := Lib.hid (HV.out.on b2)
  have HV2' := Lib.hid (HV'.out.on b2)
  have HX2 := Lib.hid (And.intro hx2 hx3)
  replace x0 := Lib.cell_of_heap hx2 0
  replace x1 := Lib.cell_of_heap hx2 1
  replace x2 := Lib.cell_of_heap hx2 2
  replace x3 := Lib.cell_of_heap hx2 3
  replace y0 := Lib.cell_of_heap hx3 0
  replace y1 := Lib.cell_of_heap hx3 1
  replace y2 := Lib.cell_of_heap hx3 2
  replace y3 := Lib.cell_of_heap hx3 3
  simp only [List.getElem?_toArray, List.getElem?_cons_zero, List.getElem?_cons_succ] at x0 x1 x2 x3 y0 y1 y2 y3
  have hwl2 := Nat.lt_of_lt_of_le hwl0 b2.size
  have hwl3 := Nat.lt_of_lt_of_le hwl1 b2.size
  clear hb b2 hx2 hx3 HS
  have HS := Lib.hid (sound_any HV2'.out)
  go_wp2_with fail
  refine HS.out.mono ?_
  rintro e W3 ⟨b, rfl, hb, b3⟩
  obtain rfl : b = true := hb.2 hO'.sound
  have hx2 := (b3.block _ hwl2).trans HX2.out.1
  have hx3 := (b3.block _ hwl3).trans HX2.out.2
  have HB3 := Lib.hid (HB2.out.trans (b3.mono HB2.out.size))
  replace x0 := Lib.cell_of_heap hx2 0
  replace x1 := Lib.cell_of_heap hx2 1
  replace x2 := Lib.cell_of_heap hx2 2
  replace x3 := Lib.cell_of_heap hx2 3
  replace y0 := Lib.cell_of_heap hx3 0
  replace y1 := Lib.cell_of_heap hx3 1
  replace y2 := Lib.cell_of_heap hx3 2
  replace y3 := Lib.cell_of_heap hx3 3
  simp only [List.getElem?_toArray, List.getElem?_cons_zero, List.getElem?_cons_succ] at x0 x1 x2 x3 y0 y1 y2 y3
  have hok := and_ok hO hO' HLL.out
  have HLE := Lib.hid (least_any (mach_tog (HV2.out.on b3) (HV2'.out.on b3) hO hO' (by decide) (by decide) HLL.out) (hok.mcOk (by decide)) hok.out2)
  clear hb b3 hx2 hx3 HS hok
  go_wp2_with fail
  refine HLE.out.mono ?_
  intro e W4 hR
  have HR := Lib.hid (hR.from HB3.out)
  obtain ⟨A3, n3, c3, b3, rfl⟩ := hR.shape
  clear hR
  go_wp2
  go_ret2
  exact HR.out
set_option maxHeartbeats 2000000 in
set_option maxRecDepth 100000 in
/-- of automata that have not as many labels there are none -/
theorem Common_none {w : World} {K K' : Int} {A B C A' B' C' : Option Addr} {n n1 n2 m n3 n4 c c1 c2 d d1 d2 : Nat} (hL : n ≠ m) (hn : n ≤ 1000) (hm : m ≤ 1000) :
    Calls Try.prog 28 #[.agg #[.int .i64 K, .slice A n c, .slice B n1 c1, .slice C n2 c2], .agg #[.int .i64 K', .slice A' m d, .slice B' n3 d1, .slice C' n4 d2]] w fun e w' => e = .returned (.tuple #[.slice none 0 0, .bool false]) ∧ Below w.heap.size w w' := by
  have he0 : ((n : Int) == (m : Int)) = false := by simp; omega
  have he1 : ((n : Int) != (m : Int)) = true := by simp; omega
  have hB0 := (Below.refl _ w).alloc (Nat.le_refl _) (.cells #[.int .i64 K, .slice A n c, .slice B n1 c1, .slice C n2 c2] 28)
  have hB1 := Lib.hid (hB0.alloc (by rw [World.size_alloc]; omega) (.cells #[.int .i64 K', .slice A' m d, .slice B' n3 d1, .slice C' n4 d2] 28))
  clear hB0 hL
  go_enter Try.func28, Try.ntmps28
  go_wp2
  go_ret2
  exact ⟨rfl, hB1.out⟩
end Go.Proofs.Ytbipdnnalhdoaaa
