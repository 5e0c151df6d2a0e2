/- made: two automata. -/
import Derived.Test.YtbipdnnalhdoaaaHX
import Derived.Test.YtbipdnnalhdoaaaHK
import Derived.Test.YtbipdnnalhdoaaaHB
namespace Go.Proofs.Ytbipdnnalhdoaaa
open Go.RowKit Go.Maps Go.WideMaps
attribute [local go_sem ↓] Go.wp_at_zero Go.wp_at_succ

/-- the turned automaton accepts just the trees with states that the other one does not -/
theorem notH_acc' {h : Hd} {m : Nat} {l : List Tr} {s : Nat} (hO : HdOk h m) (hm : m ≤ 400) (hs : thrT h.mc h.labs.length 0 l = some s) : accB (notH h).mc l = ! accB h.mc l := by
  have h1 := (notH_thr h _).2 l h.labs.length 0 (Nat.le_refl _)
  have hM := hO.mcOk hm
  have hlt := (thr_lt hM).2 l h.labs.length 0 s (Nat.le_refl _) (by show 0 < (h.side h.labs.length).out.length; rw [Hd.side_ge (Nat.le_refl _)]; exact hO.root.pos) hs
  have hlt' : s < h.root.out.length := by
    have h9 : s < (h.side h.labs.length).out.length := hlt
    rw [Hd.side_ge (Nat.le_refl _)] at h9
    exact h9
  unfold accB
  have e1 : (notH h).mc.L = h.labs.length := rfl
  have e2 : h.mc.L = h.labs.length := rfl
  rw [e1, e2, h1, hs]
  have o1 : (notH h).mc.out h.labs.length s = ((flip h.root.out h.root.out.length)[s]?.getD 0).toNat := by
    show ((notH h).side h.labs.length).tell s = _
    have e9 : (notH h).side h.labs.length = (notH h).root := Hd.side_ge (h := notH h) (show h.labs.length ≤ h.labs.length from Nat.le_refl _)
    rw [e9]
    rfl
  have o2 : h.mc.out h.labs.length s = (h.root.out[s]?.getD 0).toNat := by
    show (h.side h.labs.length).tell s = _
    rw [Hd.side_ge (Nat.le_refl _)]
    rfl
  simp only [Option.map_some, stateI, o1, o2]
  rw [flip_all, List.getElem?_map, List.getElem?_eq_getElem hlt']
  have hx := hO.root.outs _ (List.getElem_mem hlt')
  have hc : h.root.out[s] = 0 ∨ h.root.out[s] = 1 := by omega
  rcases hc with hc | hc <;> simp [hc]
/-- trees that one accepts, and the other's turn: the other does not -/
theorem acc_not {h : Hd} {m : Nat} {l : List Tr} (hO : HdOk h m) (hm : m ≤ 400) (ha : Acc (notH h).mc l) : accB h.mc l = false := by
  obtain ⟨s, h1, h2⟩ := ha
  have h3 := (notH_thr h _).2 l h.labs.length 0 (Nat.le_refl _)
  have e1 : (notH h).mc.L = h.labs.length := rfl
  rw [e1] at h1
  have hs : thrT h.mc h.labs.length 0 l = some s := by rw [← h3]; exact h1
  have h4 := notH_acc' hO hm hs
  have h5 : accB (notH h).mc l = true := accB_iff.2 ⟨s, h1, h2⟩
  rw [h5] at h4
  cases hb : accB h.mc l with
  | false => rfl
  | true => rw [hb] at h4; cases h4
/-- WHAT HOLDS OF TWO AUTOMATA, by what the machine of both tells -/
theorem differ_some {a b : Hd} {l : List Tr} (hO : HdOk a 4) (hO' : HdOk b 4) (hL : a.labs.length = b.labs.length) (h : Acc (andH a (notH b)).mc l) : accB a.mc l = true ∧ accB b.mc l = false := by
  have h1 := (and_acc hO (notH_ok hO') (by decide) (by decide) hL l).1 h
  exact ⟨accB_iff.2 h1.1, acc_not hO' (by decide) h1.2⟩
theorem differ_of {a b : Hd} {l : List Tr} (hO : HdOk a 4) (hO' : HdOk b 4) (hL : a.labs.length = b.labs.length) (hl : LabB b.labs.length l) (h : (accB a.mc l && !accB b.mc l) = true) : Acc (andH a (notH b)).mc l := by
  rw [Bool.and_eq_true] at h
  refine (and_acc hO (notH_ok hO') (by decide) (by decide) hL l).2 ⟨accB_iff.1 h.1, accB_iff.1 ?_⟩
  rw [notH_acc hO' (by decide) hl]
  exact h.2
/-- what made tells: both all new -/
def MadeRet (w : World) (e : Ending) (w' : World) : Prop := ∃ g h A c B c1 C c2 A' d B' d1 C' d2, e = .returned (tgVal g h A c B c1 C c2 A' d B' d1 C' d2) ∧ HdOk g 4 ∧ HdOk h 4 ∧ g.labs.length = 3 ∧ h.labs.length = 3 ∧ HdV w' (fun b => w.heap.size ≤ b ∧ b < w'.heap.size) g A c B c1 C c2 ∧ HdV w' (fun b => w.heap.size ≤ b ∧ b < w'.heap.size) h A' d B' d1 C' d2 ∧ Below w.heap.size w w'
theorem intB_half {x : Int} (h : IntB x) : IntB (x.tdiv 2) := by
  unfold IntB at h ⊢
  have h1 : (2 : Int).sign = 1 := rfl
  rw [Int.tdiv_eq_ediv, h1]
  split <;> omega
/-- eight stored -/
theorem eight_stored {w : World} {g : Nat} {a0 a1 a2 a3 a4 a5 a6 a7 : Value} {T : TypeId} (h : w.heap[g]? = some (.cells #[a0, a1, a2, a3, a4, a5, a6, a7] T (0, 0))) (v0 v1 v2 v3 v4 v5 v6 v7 : Value) :
    ((((((((w.setCell ⟨g, 0, none⟩ v0).setCell ⟨g, 1, none⟩ v1).setCell ⟨g, 2, none⟩ v2).setCell ⟨g, 3, none⟩ v3).setCell ⟨g, 4, none⟩ v4).setCell ⟨g, 5, none⟩ v5).setCell ⟨g, 6, none⟩ v6).setCell ⟨g, 7, none⟩ v7).heap[g]? = some (.cells #[v0, v1, v2, v3, v4, v5, v6, v7] T (0, 0)) ∧
    (∀ q, q ≠ g → ((((((((w.setCell ⟨g, 0, none⟩ v0).setCell ⟨g, 1, none⟩ v1).setCell ⟨g, 2, none⟩ v2).setCell ⟨g, 3, none⟩ v3).setCell ⟨g, 4, none⟩ v4).setCell ⟨g, 5, none⟩ v5).setCell ⟨g, 6, none⟩ v6).setCell ⟨g, 7, none⟩ v7).heap[q]? = w.heap[q]?) ∧
    ((((((((w.setCell ⟨g, 0, none⟩ v0).setCell ⟨g, 1, none⟩ v1).setCell ⟨g, 2, none⟩ v2).setCell ⟨g, 3, none⟩ v3).setCell ⟨g, 4, none⟩ v4).setCell ⟨g, 5, none⟩ v5).setCell ⟨g, 6, none⟩ v6).setCell ⟨g, 7, none⟩ v7).heap.size = w.heap.size ∧
    ∀ (B : Nat) (w0 : World), Below B w0 w → B ≤ g → Below B w0 ((((((((w.setCell ⟨g, 0, none⟩ v0).setCell ⟨g, 1, none⟩ v1).setCell ⟨g, 2, none⟩ v2).setCell ⟨g, 3, none⟩ v3).setCell ⟨g, 4, none⟩ v4).setCell ⟨g, 5, none⟩ v5).setCell ⟨g, 6, none⟩ v6).setCell ⟨g, 7, none⟩ v7) := by
  have h0 := heap_setCell_same w g 0 _ _ v0 h
  have h1 := heap_setCell_same _ g 1 _ _ v1 h0
  have h2 := heap_setCell_same _ g 2 _ _ v2 h1
  have h3 := heap_setCell_same _ g 3 _ _ v3 h2
  have h4 := heap_setCell_same _ g 4 _ _ v4 h3
  have h5 := heap_setCell_same _ g 5 _ _ v5 h4
  have h6 := heap_setCell_same _ g 6 _ _ v6 h5
  have h7 := heap_setCell_same _ g 7 _ _ v7 h6
  refine ⟨by simpa using h7, fun q hq => ?_, by simp only [size_set], fun B w0 hb hg => ?_⟩
  · rw [heap_set_other (p := ⟨g, 7, none⟩) hq, heap_set_other (p := ⟨g, 6, none⟩) hq, heap_set_other (p := ⟨g, 5, none⟩) hq, heap_set_other (p := ⟨g, 4, none⟩) hq, heap_set_other (p := ⟨g, 3, none⟩) hq, heap_set_other (p := ⟨g, 2, none⟩) hq, heap_set_other (p := ⟨g, 1, none⟩) hq, heap_set_other (p := ⟨g, 0, none⟩) hq]
  · exact (((((((hb.setCell (p := ⟨g, 0, none⟩) hg _).setCell (p := ⟨g, 1, none⟩) hg _).setCell (p := ⟨g, 2, none⟩) hg _).setCell (p := ⟨g, 3, none⟩) hg _).setCell (p := ⟨g, 4, none⟩) hg _).setCell (p := ⟨g, 5, none⟩) hg _).setCell (p := ⟨g, 6, none⟩) hg _).setCell (p := ⟨g, 7, none⟩) hg _
/-- the result, two automata, in a cell block -/
theorem ret_two {f : Func} {p : Tmp} (h : f.results = #[.cell p 51]) {a : Act} {w : World} {g : Nat} {v0 v1 v2 v3 v4 v5 v6 v7 : Value} {R : Ending → World → Prop} (hp : a.tmps.getD p undef = .pointer (some ⟨g, 0, none⟩)) (hd : a.defers = [])
    (hg : w.heap[g]? = some (.cells #[v0, v1, v2, v3, v4, v5, v6, v7] 51 (0, 0))) (hR : R (.returned (.agg #[v0, v1, v2, v3, v4, v5, v6, v7])) w) : bodyPost Try.prog f R .ret a w := by
  have hc := fun j => Lib.cell_of_heap hg j
  have c0 := hc 0
  have c1 := hc 1
  have c2 := hc 2
  have c3 := hc 3
  have c4 := hc 4
  have c5 := hc 5
  have c6 := hc 6
  have c7 := hc 7
  simp only [List.getElem?_toArray, List.getElem?_cons_zero, List.getElem?_cons_succ] at c0 c1 c2 c3 c4 c5 c6 c7
  refine bodyPost_ret (v := .agg #[v0, v1, v2, v3, v4, v5, v6, v7]) ?_ hd hR
  rw [results_cell1' h, hp]
  go_simp
set_option maxHeartbeats 4000000 in
set_option maxRecDepth 100000 in
theorem made_any {w : World} {x : Int} {A B D E : Option Addr} {c c' cD cE : Nat} {ls ls2 : List (List Int)} {l l2 : List Int} (hx : IntB x) (HL : RowsIn w A ls) (HR : SlP w (fun b => b < w.heap.size) 1 B l.length (l.map .i)) (hrb : l.length ≤ 9223372036854775807) (hb : ∀ x ∈ l, IntB x)
    (HL2 : RowsIn w D ls2) (HR2 : SlP w (fun b => b < w.heap.size) 1 E l2.length (l2.map .i)) (hrb2 : l2.length ≤ 9223372036854775807) (hb2 : ∀ x ∈ l2, IntB x) :
    Calls Try.prog 26 #[.int .i64 x, .slice A ls.length c, .slice B l.length c', .slice D ls2.length cD, .slice E l2.length cE] w (MadeRet w) := by
  have hB0 := (Below.refl _ w).alloc (Nat.le_refl _) (.cells #[.int .i64 0, .slice none 0 0, .slice none 0 0, .slice none 0 0, .int .i64 0, .slice none 0 0, .slice none 0 0, .slice none 0 0] 51)
  have hx0 := heap_alloc_new w (.cells #[.int .i64 0, .slice none 0 0, .slice none 0 0, .slice none 0 0, .int .i64 0, .slice none 0 0, .slice none 0 0, .slice none 0 0] 51)
  have HX := Lib.hid hx
  have hy := intB_half hx
  have HY := Lib.hid hy
  have HA := Lib.hid (And.intro hrb (And.intro hb (And.intro hrb2 hb2)))
  have hx1 : -9223372036854775808 ≤ x := hx.1
  have hx2 : x ≤ 9223372036854775807 := hx.2
  clear hx hy hrb hb hrb2 hb2
  go_enter Try.func26, Try.ntmps26
  go_upto_region 1 with fail
  generalize w.alloc (.cells #[.int .i64 0, .slice none 0 0, .slice none 0 0, .slice none 0 0, .int .i64 0, .slice none 0 0, .slice none 0 0, .slice none 0 0] 51) = W1 at *
  have hwl := (Array.getElem?_eq_some_iff.1 hx0).1
  have HG1 := Lib.hid (Good_any (c := c) (c' := c') HX.out (HL.on hB0) (Sl.on HR hB0) HA.out.1 HA.out.2.1)
  have HB := Lib.hid hB0
  have HX0 := Lib.hid hx0
  have HIN := Lib.hid (And.intro (HL2.on hB0) (Sl.on HR2 hB0))
  clear HL HR HL2 HR2 hB0 hx0
  go_wp2_with fail
  refine HG1.out.mono ?_
  rintro e W2 ⟨g, A1, c1, B1, c2, C1, c3, rfl, hO, hL3, hV, b2⟩
  have HV := Lib.hid (And.intro hO (And.intro hL3 hV))
  have HB2 := Lib.hid b2
  have HG2 := Lib.hid (Good_any (c := cD) (c' := cE) HY.out (HIN.out.1.on b2) (Sl.on HIN.out.2 b2) HA.out.2.2.1 HA.out.2.2.2)
  clear hO hL3 hV b2 HG1
  go_wp2_with fail
  refine HG2.out.mono ?_
  rintro e W3 ⟨h, A2, d1, B2, d2, C2, d3, rfl, hO', hL3', hV', b3⟩
  have hx3 := (b3.block _ (Nat.lt_of_lt_of_le hwl HB2.out.size)).trans ((HB2.out.block _ hwl).trans HX0.out)
  obtain ⟨q1, q2, q3, q4⟩ := eight_stored hx3 (.int .i64 g.K) (.slice A1 g.labs.length c1) (.slice B1 g.root.nx.length c2) (.slice C1 g.root.out.length c3) (.int .i64 h.K) (.slice A2 h.labs.length d1) (.slice B2 h.root.nx.length d2) (.slice C2 h.root.out.length d3)
  have HQ := Lib.hid q1
  have hz0 := Lib.cell_of_heap hx3 0
  have hz1 := Lib.cell_of_heap hx3 1
  have hz2 := Lib.cell_of_heap hx3 2
  have hz3 := Lib.cell_of_heap hx3 3
  have hz4 := Lib.cell_of_heap hx3 4
  have hz5 := Lib.cell_of_heap hx3 5
  have hz6 := Lib.cell_of_heap hx3 6
  have hz7 := Lib.cell_of_heap hx3 7
  have f0 := Lib.frozen_of_heap hx3 0
  have f1 := Lib.frozen_of_heap hx3 1
  have f2 := Lib.frozen_of_heap hx3 2
  have f3 := Lib.frozen_of_heap hx3 3
  have f4 := Lib.frozen_of_heap hx3 4
  have f5 := Lib.frozen_of_heap hx3 5
  have f6 := Lib.frozen_of_heap hx3 6
  have f7 := Lib.frozen_of_heap hx3 7
  simp only [List.getElem?_toArray, List.getElem?_cons_zero, List.getElem?_cons_succ] at hz0 hz1 hz2 hz3 hz4 hz5 hz6 hz7
  have HRET := Lib.hid (show MadeRet w (.returned (tgVal g h A1 c1 B1 c2 C1 c3 A2 d1 B2 d2 C2 d3)) _ from
    ⟨g, h, A1, c1, B1, c2, C1, c3, A2, d1, B2, d2, C2, d3, rfl, HV.out.1, hO', HV.out.2.1, hL3',
      (HV.out.2.2.keep fun p hp => World.cell?_of_block ((q2 p.block (by have := hp.1; omega)).trans (b3.block p.block hp.2))).more fun b hb => ⟨by have := HB.out.size; omega, by rw [q3]; exact Nat.lt_of_lt_of_le hb.2 b3.size⟩,
      (hV'.keep fun p hp => World.cell?_of_block (q2 p.block (by have := hp.1; have := HB2.out.size; omega))).more fun b hb => ⟨by have := HB.out.size; have := HB2.out.size; omega, by rw [q3]; exact hb.2⟩,
      q4 _ _ (HB.out.trans (Below.mono (HB2.out.trans (b3.mono HB2.out.size)) HB.out.size)) (Nat.le_refl _)⟩)
  clear q1 q2 q3 q4 hx3 b3 hO' hL3' hV'
  go_wp2
  exact ret_two rfl rfl rfl HQ.out HRET.out
end Go.Proofs.Ytbipdnnalhdoaaa
