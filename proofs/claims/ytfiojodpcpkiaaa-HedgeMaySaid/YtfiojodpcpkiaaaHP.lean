/- The walk of the law HedgeMay. -/
import Derived.Test.YtfiojodpcpkiaaaHN
import Derived.Test.YtfiojodpcpkiaaaHC
namespace Go.Proofs.Ytfiojodpcpkiaaa
open Go.RowKit Go.Maps Go.WideMaps
attribute [local go_sem ↓] Go.wp_at_zero Go.wp_at_succ

theorem sdC_take (l : List Sd) (k : Nat) : (l.take k).flatMap sdC = (l.flatMap sdC).take (k * 2) := by
  induction l generalizing k with
  | nil => simp
  | cons s l ih =>
    cases k with
    | zero => simp
    | succ k =>
      rw [List.take_succ_cons, List.flatMap_cons, List.flatMap_cons, ih]
      have h : (sdC s).length = 2 := sdC_len s
      rw [show (k + 1) * 2 = (sdC s).length + k * 2 by omega, List.take_length_add_append]
set_option maxHeartbeats 4000000 in
set_option maxRecDepth 100000 in
theorem HedgeMay_calls {w : World} {g : Hd} {A0 B0 C0 : Option Addr} {a0 b0 d0 : Nat} {x : Int} {A B : Option Addr} {c c' : Nat} {ls : List (List Int)} {l : List Int} (HH : HdV w (fun b => b < w.heap.size) g A0 a0 B0 b0 C0 d0) (hx : IntB x) (HL : RowsIn w A ls) (_ : Cap ls.length c) (HR : SlP w (fun b => b < w.heap.size) 1 B l.length (l.map .i)) (hcl : Cap l.length c') (hb : ∀ x ∈ l, IntB x) :
    Calls Try.prog 3 #[hdVal g A0 a0 B0 b0 C0 d0, .int .i64 x, .slice A ls.length c, .slice B l.length c'] w fun e w' => e = .returned (.bool true) ∧ Below w.heap.size w w' := by
  have hB0 := (Below.refl _ w).alloc (Nat.le_refl _) (.cells #[.int .i64 g.K, .slice A0 g.labs.length a0, .slice B0 g.root.nx.length b0, .slice C0 g.root.out.length d0] 28)
  have hx0 := heap_alloc_new w (.cells #[.int .i64 g.K, .slice A0 g.labs.length a0, .slice B0 g.root.nx.length b0, .slice C0 g.root.out.length d0] 28)
  have hlb := HH.le.len
  have HLE := Lib.hid HH.le
  have HI := Lib.hid (And.intro hx (And.intro HL (And.intro HR (And.intro hcl hb))))
  clear hx HL HR hcl hb
  go_enter Try.func3, Try.ntmps3
  go_upto_region 1 with fail
  generalize w.alloc (.cells #[.int .i64 g.K, .slice A0 g.labs.length a0, .slice B0 g.root.nx.length b0, .slice C0 g.root.out.length d0] 28) = W1 at *
  have x0 := Lib.cell_of_heap hx0 0
  have x1 := Lib.cell_of_heap hx0 1
  have x2 := Lib.cell_of_heap hx0 2
  have x3 := Lib.cell_of_heap hx0 3
  have f1 := Lib.frozen_of_heap hx0 1
  simp only [List.getElem?_toArray, List.getElem?_cons_zero, List.getElem?_cons_succ] at x0 x1 x2 x3
  have hwl := (Array.getElem?_eq_some_iff.1 hx0).1
  have HV := Lib.hid (HH.on hB0)
  have HV0 := Lib.hid HH
  have HB := Lib.hid hB0
  have HX := Lib.hid hx0
  clear HH hB0 hx0
  go_upto_if 14 with fail
  go_cut [14, 15, 16, 17, 18] (fun _ _ _ _ _ wx => ∃ labs : List Sd, wx.heap[w.heap.size]? = some (.cells #[.int .i64 g.K, .slice A0 labs.length a0, .slice B0 g.root.nx.length b0, .slice C0 g.root.out.length d0] 28 (0, 0)) ∧
    HdV wx (fun b => b < wx.heap.size) ⟨g.K, labs, g.root⟩ A0 a0 B0 b0 C0 d0 ∧ Below w.heap.size w wx)
  case first =>
    by_cases h5 : (5 : Int) < (g.labs.length : Int)
    · have h5n : 5 ≤ g.labs.length := by omega
      have hca : 5 ≤ a0 := by have := HLE.out.1; omega
      go_wp2
      go_meet
      have hbz := HB.out.setCell (p := ⟨w.heap.size, 1, none⟩) (Nat.le_refl _) (.slice A0 5 a0)
      have hz := heap_setCell_same W1 w.heap.size 1 _ _ (.slice A0 5 a0) HX.out
      have htl : (g.labs.take 5).length = 5 := by rw [List.length_take]; omega
      refine ⟨g.labs.take 5, by rw [htl]; simpa using hz, ⟨?_, ?_, (HV0.out.on hbz).root⟩, hbz⟩
      · show SlP _ _ 2 A0 (g.labs.take 5).length ((g.labs.take 5).flatMap sdC)
        rw [htl, sdC_take]
        exact (HV0.out.on hbz).labs.take h5n
      · show Cap (g.labs.take 5).length a0
        rw [htl]
        exact ⟨hca, HLE.out.2⟩
    · go_wp2
      go_meet
      exact ⟨g.labs, HX.out, HV.out, HB.out⟩
  case rest =>
    rename World => W2
    obtain ⟨labs, hx2, hv2, hb2⟩ := hcut
    replace x0 := Lib.cell_of_heap hx2 0
    replace x1 := Lib.cell_of_heap hx2 1
    replace x2 := Lib.cell_of_heap hx2 2
    replace x3 := Lib.cell_of_heap hx2 3
    simp only [List.getElem?_toArray, List.getElem?_cons_zero, List.getElem?_cons_succ] at x0 x1 x2 x3
    have hwl2 := (Array.getElem?_eq_some_iff.1 hx2).1
    have HM1 := Lib.hid (May_any hv2)
    have HV2 := Lib.hid hv2
    have HX2 := Lib.hid hx2
    have HB2 := Lib.hid hb2
    clear hx2 hv2 hb2 f1 HX HV
    go_wp2_with fail
    refine HM1.out.mono ?_
    rintro e W3 ⟨z, rfl, hz, b3⟩
    have hx3 := (b3.block _ hwl2).trans HX2.out
    replace x0 := Lib.cell_of_heap hx3 0
    replace x1 := Lib.cell_of_heap hx3 1
    replace x2 := Lib.cell_of_heap hx3 2
    replace x3 := Lib.cell_of_heap hx3 3
    simp only [List.getElem?_toArray, List.getElem?_cons_zero, List.getElem?_cons_succ] at x0 x1 x2 x3
    have HM2 := Lib.hid (rmay_any (HV2.out.on b3))
    have HB3 := Lib.hid (HB2.out.trans (b3.mono HB2.out.size))
    have HZ := Lib.hid hz
    clear hz b3 hx3
    go_wp2_with fail
    refine HM2.out.mono ?_
    rintro e W4 ⟨b, rfl, hb, b4⟩
    have HB4 := Lib.hid (HB3.out.trans (b4.mono HB3.out.size))
    have hzb : (z = 0 ∧ b = true) ∨ (z = 1 ∧ b = false) := by
      rcases HZ.out with h9 | h9
      · exact .inl ⟨h9.1, hb.2 h9.2⟩
      · refine .inr ⟨h9.1, ?_⟩
        cases hbb : b with
        | false => rfl
        | true => exact absurd (hb.1 hbb) h9.2
    have hI := HI.out
    have HG := Lib.hid (Good_any (w := W4) (c := c) (c' := c') hI.1 (hI.2.1.on HB4.out) (Sl.on hI.2.2.1 HB4.out) hI.2.2.2.1.len hI.2.2.2.2)
    clear hb b4 hI
    rcases hzb with ⟨rfl, rfl⟩ | ⟨rfl, rfl⟩
    all_goals
      go_wp2_with fail
      refine HG.out.mono ?_
      rintro e W5 ⟨h, A1, c1, B1, c2, C1, c3, rfl, hO, hL3, hV, b5⟩
      have HB5 := Lib.hid (HB4.out.trans (b5.mono HB4.out.size))
      have HM3 := Lib.hid (May_any (hV.more (S' := fun b => b < W5.heap.size) fun b hb => hb.2))
      have HMP := Lib.hid (show MayP h from ⟨by have := hO.fewK; omega, hO.sound, fun k s hs => by have := hO.fewS s (List.mem_of_getElem? hs); omega, by have := hO.fewR; omega⟩)
      clear hO hL3 hV b5
      go_wp2_with fail
      refine HM3.out.mono ?_
      rintro e W6 ⟨z, rfl, hz, b6⟩
      have HB6 := Lib.hid (HB5.out.trans (b6.mono HB5.out.size))
      obtain rfl : z = 0 := by
        rcases hz with h9 | h9
        · exact h9.1
        · exact absurd HMP.out h9.2
      clear hz b6
      go_wp2_with fail
      refine (lives_any _).mono ?_
      rintro e W7 ⟨rfl, b7⟩
      have HB7 := Lib.hid (HB6.out.trans (b7.mono HB6.out.size))
      clear b7
      go_wp2
      go_ret
      exact ⟨rfl, HB7.out⟩
end Go.Proofs.Ytfiojodpcpkiaaa
