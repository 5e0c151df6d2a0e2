/- hedge.Not. -/
import Derived.Test.YtnkelhmjkmeilaaGreatDoorT28
import Derived.Test.YtnkelhmjkmeilaaGreatDoorT29
section
namespace Go.Proofs.YtnkelhmjkmeilaaGreatDoor.H
open Go.RowKit Go.Maps Go.WideMaps
attribute [local go_sem ↓] Go.wp_at_zero Go.wp_at_succ
theorem set4 {B g : Nat} {w0 w : World} (h : Below B w0 w) (hg : B ≤ g) (v0 v1 v2 v3 : Value) : Below B w0 ((((w.setCell ⟨g, 0, none⟩ v0).setCell ⟨g, 1, none⟩ v1).setCell ⟨g, 2, none⟩ v2).setCell ⟨g, 3, none⟩ v3) :=
  (((h.setCell (p := ⟨g, 0, none⟩) hg v0).setCell (p := ⟨g, 1, none⟩) hg v1).setCell (p := ⟨g, 2, none⟩) hg v2).setCell (p := ⟨g, 3, none⟩) hg v3
def flip (l : List Int) (i : Nat) : List Int := (l.take i).map (fun x => 1 - x) ++ l.drop i
theorem flip_len (l : List Int) (i : Nat) : (flip l i).length = l.length := by
  unfold flip
  rw [List.length_append, List.length_map, ← List.length_append, List.take_append_drop]
theorem flip_at {l : List Int} {i : Nat} {x : Int} (h : l[i]? = some x) : (flip l i)[i]? = some x := by
  have hi := (List.getElem?_eq_some_iff.1 h).1
  unfold flip
  rw [List.getElem?_append_right (by rw [List.length_map, List.length_take]; omega), List.length_map, List.length_take, Nat.min_eq_left (by omega), Nat.sub_self, List.getElem?_drop, Nat.add_zero]
  exact h
theorem flip_set {l : List Int} {i : Nat} {x : Int} (h : l[i]? = some x) : (flip l i).set i (1 - x) = flip l (i + 1) := by
  obtain ⟨hi, hx⟩ := List.getElem?_eq_some_iff.1 h
  unfold flip
  rw [List.set_append_right _ _ (by rw [List.length_map, List.length_take]; omega), List.length_map, List.length_take, Nat.min_eq_left (by omega), Nat.sub_self, List.drop_eq_getElem_cons hi, List.set_cons_zero, List.take_succ_eq_append_getElem hi, List.map_append, hx]
  simp
def notH (h : Hd) : Hd := ⟨h.K, h.labs, ⟨h.root.nx, flip h.root.out h.root.out.length⟩⟩
def NotRet (w : World) (h : Hd) (e : Ending) (w' : World) : Prop := ∃ (A : Option Addr) (c : Nat) (B : Option Addr) (c1 : Nat) (C : Option Addr) (c2 : Nat), e = .returned (hdVal (notH h) A c B c1 C c2) ∧ HdV w' (fun b => w.heap.size ≤ b ∧ b < w'.heap.size) (notH h) A c B c1 C c2 ∧ Below w.heap.size w w'
structure NotCut (W1 wx : World) (h : Hd) (nB lo : Nat) (Wc : World) (N : Option Addr) (cN : Nat) (O : Option Addr) (cO : Nat) : Prop where
  cell : wx.heap[nB]? = some (.cells #[.int .i64 h.K, .slice none 0 0, .slice N h.root.nx.length cN, .slice O h.root.out.length cO] 115 (0, 0))
  gs : GS Wc lo N cN O cO h.root.nx h.root.out
  lo1 : W1.heap.size ≤ lo
  nb1 : W1.heap.size ≤ nB
  far : ∀ q, lo ≤ q → q < Wc.heap.size → wx.heap[q]? = Wc.heap[q]? ∧ q ≠ nB
  sz : Wc.heap.size ≤ wx.heap.size
  bel : Below W1.heap.size W1 wx
set_option maxHeartbeats 4000000 in
set_option maxRecDepth 100000 in
theorem Not_any {w : World} {h : Hd} {A B C : Option Addr} {c c1 c2 : Nat} (H : HdV w (fun b => b < w.heap.size) h A c B c1 C c2) (hO : HdOk h 4) (hL : h.labs.length ≤ 3) :
    Calls Tryz.prog 48 #[hdVal h A c B c1 C c2] w (NotRet w h) := by
  have hB0 := (Below.refl _ w).alloc (Nat.le_refl _) (.cells #[.int .i64 h.K, .slice A h.labs.length c, .slice B h.root.nx.length c1, .slice C h.root.out.length c2] 115)
  have hx0 := heap_alloc_new w (.cells #[.int .i64 h.K, .slice A h.labs.length c, .slice B h.root.nx.length c1, .slice C h.root.out.length c2] 115)
  have hs0 : (w.alloc (.cells #[.int .i64 h.K, .slice A h.labs.length c, .slice B h.root.nx.length c1, .slice C h.root.out.length c2] 115)).heap.size = w.heap.size + 1 := World.size_alloc _ _
  have hB1 := hB0.alloc (by omega) (.cells #[.int .i64 0, .slice none 0 0, .slice none 0 0, .slice none 0 0] 115)
  have hx1 := heap_alloc_new (w.alloc (.cells #[.int .i64 h.K, .slice A h.labs.length c, .slice B h.root.nx.length c1, .slice C h.root.out.length c2] 115)) (.cells #[.int .i64 0, .slice none 0 0, .slice none 0 0, .slice none 0 0] 115)
  have hx0' := (Below.heap_alloc (w.alloc (.cells #[.int .i64 h.K, .slice A h.labs.length c, .slice B h.root.nx.length c1, .slice C h.root.out.length c2] 115)) (.cells #[.int .i64 0, .slice none 0 0, .slice none 0 0, .slice none 0 0] 115) w.heap.size (by omega)).trans hx0
  have hs1 : ((w.alloc (.cells #[.int .i64 h.K, .slice A h.labs.length c, .slice B h.root.nx.length c1, .slice C h.root.out.length c2] 115)).alloc (.cells #[.int .i64 0, .slice none 0 0, .slice none 0 0, .slice none 0 0] 115)).heap.size = w.heap.size + 2 := by rw [World.size_alloc, hs0]
  rw [hs0] at hx1
  go_enter Tryz.func48, Tryz.ntmps48
  go_upto_region 1 with fail
  generalize (w.alloc (.cells #[.int .i64 h.K, .slice A h.labs.length c, .slice B h.root.nx.length c1, .slice C h.root.out.length c2] 115)).alloc (.cells #[.int .i64 0, .slice none 0 0, .slice none 0 0, .slice none 0 0] 115) = W1 at *
  have x0 := Lib.cell_of_heap hx0' 0
  have x1 := Lib.cell_of_heap hx0' 1
  have x2 := Lib.cell_of_heap hx0' 2
  have x3 := Lib.cell_of_heap hx0' 3
  simp only [List.getElem?_toArray, List.getElem?_cons_zero, List.getElem?_cons_succ] at x0 x1 x2 x3
  have hwl0 := (Array.getElem?_eq_some_iff.1 hx0').1
  have hwl1 := (Array.getElem?_eq_some_iff.1 hx1).1
  have HV1 := Lib.hid (H.on hB1)
  have HB1 := Lib.hid hB1
  have HX0 := Lib.hid hx0'
  have HX1 := Lib.hid hx1
  have HS1 := Lib.hid hs1
  have r0 := fun w' (hw' : Below W1.heap.size W1 w') => (hw'.cell (p := ⟨w.heap.size, 0, none⟩) hwl0).trans x0
  have r2 := fun w' (hw' : Below W1.heap.size W1 w') => (hw'.cell (p := ⟨w.heap.size, 2, none⟩) hwl0).trans x2
  have r3 := fun w' (hw' : Below W1.heap.size W1 w') => (hw'.cell (p := ⟨w.heap.size, 3, none⟩) hwl0).trans x3
  have HC : Hid (∀ w', Below W1.heap.size W1 w' → Calls Tryz.prog 80 #[sdVal h.root B c1 C c2] w' (CloneRet w' h.root)) := Lib.hid fun w' hw' => clone_any (HV1.out.root.on hw') (by have := hO.root.len; have := hO.fewR; omega) (by have := hO.fewR; omega) (fun r hr => by have h1 := (hO.root.rows r hr).1; have h2 := hO.fewK; omega)
  have hb0 : Below W1.heap.size W1 W1 := Below.refl _ _
  have hd0 : W1.heap.size ≤ W1.drew.heap.size := Nat.le_refl _
  have hd1 : W1.heap.size ≤ W1.heap.size := Nat.le_refl _
  clear H hB0 hB1 hx0 hx1 hs0 hs1 hx0' x0 x2 x3
  go_cut [3, 8, 9, 10, 11, 12, 13] (fun s3 _ _ _ _ _ _ wx => ∃ (nB lo : Nat) (Wc : World) (N O : Option Addr) (cN cO : Nat), s3 = .pointer (some ⟨nB, 0, none⟩) ∧ NotCut W1 wx h nB lo Wc N cN O cO)
  case first =>
    go_region_held3 (fun w' => Below W1.heap.size W1 w')
      (repeat (first | assumption | with_reducible refine Below.drew ?_ | with_reducible refine bt (a := W1) ?_ b5 | with_reducible refine Below.alloc ?_ (by assumption) _ | exact set4 (by repeat (first | assumption | with_reducible refine bt (a := W1) ?_ b5)) hd1 _ _ _ _))
      (first
        | (go_at_call 80; refine (HC.out _ (by assumption)).mono ?_; rintro e W5 ⟨N, cN, O, cO, rfl, g5, b5⟩; have hs5 : W1.heap.size ≤ W5.heap.size := (by first | exact b5.size | exact Nat.le_trans (Below.size (by assumption)) b5.size); try (have hz5 := (b5.block W1.heap.size (show W1.heap.size < (W1.alloc (.cells #[.int .i64 0, .slice none 0 0, .slice none 0 0, .slice none 0 0] 115)).heap.size by rw [World.size_alloc]; omega)).trans (heap_alloc_new W1 (.cells #[.int .i64 0, .slice none 0 0, .slice none 0 0, .slice none 0 0] 115)); have f50 := Lib.frozen_of_heap hz5 0; have f51 := Lib.frozen_of_heap hz5 1; have f52 := Lib.frozen_of_heap hz5 2; have f53 := Lib.frozen_of_heap hz5 3; have z50 := Lib.cell_of_heap hz5 0; have z51 := Lib.cell_of_heap hz5 1; have z52 := Lib.cell_of_heap hz5 2; have z53 := Lib.cell_of_heap hz5 3; simp only [List.getElem?_toArray, List.getElem?_cons_zero, List.getElem?_cons_succ] at z50 z51 z52 z53)))
    · go_wp2_with fail
      go_meet
      rename_i hH
      refine ⟨W5.heap.size, _, W5, N, O, cN, cO, rfl, heap_alloc_new W5 _, g5, Nat.le_refl _, hs5, fun q _ hq => ⟨(Below.heap_alloc W5 _ q hq), by omega⟩, by rw [World.size_alloc]; omega, hH⟩
    · go_wp2_with fail
      go_meet
      rename_i hH
      have hz := four_stored hz5 (.int .i64 h.K) (.slice none 0 0) (.slice N h.root.nx.length cN) (.slice O h.root.out.length cO)
      refine ⟨W1.heap.size, _, W5, N, O, cN, cO, rfl, hz, g5, ?_, Nat.le_refl _, fun q hq hq2 => ?_, by simp only [size_set]; exact Nat.le_refl _, hH⟩
      · show W1.heap.size ≤ (W1.alloc _).heap.size
        rw [World.size_alloc]; omega
      · have hq' : W1.heap.size + 1 ≤ q := by
          have h9 : (W1.alloc (.cells #[.int .i64 0, .slice none 0 0, .slice none 0 0, .slice none 0 0] 115)).heap.size ≤ q := hq
          rw [World.size_alloc] at h9
          exact h9
        have hne : q ≠ W1.heap.size := by omega
        refine ⟨?_, hne⟩
        rw [heap_set_other (p := ⟨W1.heap.size, 3, none⟩) hne, heap_set_other (p := ⟨W1.heap.size, 2, none⟩) hne, heap_set_other (p := ⟨W1.heap.size, 1, none⟩) hne, heap_set_other (p := ⟨W1.heap.size, 0, none⟩) hne]
  case rest =>
    rename World => W3
    obtain ⟨nB, lo, Wc, N, O, cN, cO, rfl, hN⟩ := hcut
    have hnl3 := (Array.getElem?_eq_some_iff.1 hN.cell).1
    have z1 := (hN.bel.cell (p := ⟨w.heap.size, 1, none⟩) hwl0).trans x1
    have HN := Lib.hid hN
    have hnb := hN.nb1
    clear hN r0 r2 r3 HC hb0 hd0 hd1
    go_wp2
    go_loopw [17] (fun iv wr => ∃ (i cL : Nat) (L : Option Addr), iv = .int .i64 i ∧ i ≤ h.labs.length ∧ wr.heap[nB]? = some (.cells #[.int .i64 h.K, .slice L i cL, .slice N h.root.nx.length cN, .slice O h.root.out.length cO] 115 (0, 0)) ∧
      OwnC wr W3.heap.size 113 2 L i cL ((h.labs.take i).flatMap sdC) ∧ Hid (∀ q, q < W3.heap.size → q ≠ nB → wr.heap[q]? = W3.heap[q]?) ∧ W3.heap.size ≤ wr.heap.size ∧ Below W1.heap.size W1 wr) (fun iv _ => h.labs.length - (intOf iv).toNat)
    case atStart => exact ⟨0, 0, none, rfl, Nat.zero_le _, HN.out.cell, OwnC.nil _ _ _ _, fun _ _ _ => rfl, Nat.le_refl _, HN.out.bel⟩
    case round =>
      obtain ⟨i, cL, L, rfl, hi, hgc, hOL, hfar, hsz, hbr⟩ := hrel
      obtain ⟨wo, rfl⟩ : ∃ wo : World, wo = wr := ⟨_, rfl⟩
      have HGC := Lib.hid hgc
      have HO := Lib.hid hOL
      have HBR := Lib.hid hbr
      clear hgc hOL hbr
      by_cases hlt : i < h.labs.length
      · obtain ⟨a, B', c1', C', c2', rfl, hab, k0, k1, hsd⟩ := labs_at (SlP.keep HV1.out.labs fun p hp => HBR.out.cell hp) (Hd.side_lt hlt)
        have hside := (hO.sideOk i).1
        rw [if_pos hlt] at hside
        have hss := (hO.sideOk i).2
        have hTK : (h.labs.take (i + 1)).flatMap sdC = (h.labs.take i).flatMap sdC ++ sdC (h.side i) := by
          rw [List.take_succ_eq_append_getElem hlt, List.flatMap_append, List.flatMap_cons, List.flatMap_nil, List.append_nil]
          have h9 := Hd.side_lt hlt
          rw [List.getElem?_eq_getElem hlt] at h9
          injection h9 with h9
          rw [h9]
        have HTK := Lib.hid hTK
        have hn1 : (h.side i).nx.length ≤ 1000 := by have := hside.len; omega
        have ho1 : (h.side i).out.length ≤ 1000 := by omega
        have HRW : Hid (∀ r ∈ (h.side i).nx, r.length ≤ 1000) := Lib.hid fun r hr => by have h1 := (hside.rows r hr).1; have h2 := hO.fewK; omega
        generalize h.side i = sd at *
        have hiI : (i : Int) < (h.labs.length : Int) := by omega
        have hi0 : (0 : Int) ≤ (i : Int) := by omega
        have hal := (Below.refl _ wo).alloc (Nat.le_refl _) (.cells #[.slice B' sd.nx.length c1', .slice C' sd.out.length c2'] 113)
        have hxa := heap_alloc_new wo (.cells #[.slice B' sd.nx.length c1', .slice C' sd.out.length c2'] 113)
        have hsa : (wo.alloc (.cells #[.slice B' sd.nx.length c1', .slice C' sd.out.length c2'] 113)).heap.size = wo.heap.size + 1 := World.size_alloc _ _
        have hlo : wo.heap.size < wo.heap.size + 1 := Nat.lt_succ_self _
        clear hTK hside
        go_upto_region 5 with fail
        generalize wo.alloc (.cells #[.slice B' sd.nx.length c1', .slice C' sd.out.length c2'] 113) = W4 at *
        have hw1 : W1.heap.size ≤ wo.heap.size := HBR.out.size
        have HC := Lib.hid (clone_any (w := W4.drew) (a1 := c1') (d1 := c2') (((hsd.keep fun p hp => (hal.trans ((Below.drew (Below.refl _ W4)).mono hal.size)).cell (Nat.lt_of_lt_of_le hp hw1)).more fun b hb => by show b < W4.heap.size; omega)) hn1 ho1 HRW.out)
        have hgc4 := (hal.block nB (Nat.lt_of_lt_of_le hnl3 hsz)).trans HGC.out
        have HG4 := Lib.hid hgc4
        have hO4 := HO.out.below hal
        obtain ⟨xs, o1, o2⟩ := hO4
        have HO1 := Lib.hid o1
        have HO2 := Lib.hid o2
        have y0 := Lib.cell_of_heap hxa 0
        have y1 := Lib.cell_of_heap hxa 1
        have z11 := Lib.cell_of_heap hgc4 1
        have f1 := Lib.frozen_of_heap hgc4 1
        simp only [List.getElem?_toArray, List.getElem?_cons_zero, List.getElem?_cons_succ] at y0 y1 z11
        have hsl : wo.heap.size < W4.heap.size := by omega
        have hnl4 : nB < W4.heap.size := by omega
        have hnw : nB < wo.heap.size := by omega
        have hneg : some nB ≠ (Value.slice L i cL).ownBlock := fun e => by have := (HO1.out.lt nB e.symm).1; omega
        obtain ⟨xs0, p1, _⟩ := HO.out
        have hnes : some wo.heap.size ≠ (Value.slice L i cL).ownBlock := fun e => by have := (p1.lt wo.heap.size e.symm).2; omega
        have HAL := Lib.hid (And.intro hal hfar)
        clear hsd hgc4 o1 o2 p1 hxa k0 k1 hal hfar
        refine wp_region_noPanic ?_
        refine wp_region_held_drew (S := (fun w' => w'.cell? ⟨wo.heap.size, 0, none⟩ = some (.slice B' sd.nx.length c1') ∧ w'.cell? ⟨wo.heap.size, 1, none⟩ = some (.slice C' sd.out.length c2'))) (by kernel_rfl) ?_ (fun hHeld => ?_)
        · (try dsimp only)
          (first | exact ⟨y0, y1⟩ | exact ⟨q0, q1⟩ | exact ⟨(World.cell?_of_block (a := ⟨wo.heap.size, 0, none⟩) (Below.heap_alloc W5 _ wo.heap.size hs5)).trans q0, (World.cell?_of_block (a := ⟨wo.heap.size, 1, none⟩) (Below.heap_alloc W5 _ wo.heap.size hs5)).trans q1⟩ | exact ⟨g72, g73⟩ | exact ⟨(World.cell?_of_block (a := ⟨wo.heap.size, 0, none⟩) (heap_set_other (p := ⟨nB, 1, none⟩) (Nat.ne_of_gt hnw))).trans g72, (World.cell?_of_block (a := ⟨wo.heap.size, 1, none⟩) (heap_set_other (p := ⟨nB, 1, none⟩) (Nat.ne_of_gt hnw))).trans g73⟩ | go_keep)
        refine wpAnyH_take (i := 0) (v := ?_) rfl (by kernel_rfl) (by kernel_rfl) (by kernel_rfl) (fun _ _ _ h => h) (Or.inl ⟨by rfl, ?_⟩) (by assumption) ?_
        rotate_left
        · (intro w hSw; (try dsimp only at hSw); go_simp; try with_reducible rfl)
        try simp only [Act.put, List.setIfInBounds_toArray]
        refine wpAnyH_take (i := 2) (v := ?_) rfl (by kernel_rfl) (by kernel_rfl) (by kernel_rfl) (fun _ _ _ h => h) (Or.inl ⟨by rfl, ?_⟩) (by assumption) ?_
        rotate_left
        · (intro w hSw; (try dsimp only at hSw); go_simp; try with_reducible rfl)
        try simp only [Act.put]
        refine wpAnyH_ready (rs := [1, 3]) (by kernel_rfl) (by simp) ?_
        refine AllReadyH.cons rfl (fun K hK => ?_) ?_
        · go_simp
          refine hK.out _ _ ?_ (fun hNew => ?_)
          · (try dsimp only)
            (first | exact ⟨y0, y1⟩ | exact ⟨q0, q1⟩ | exact ⟨(World.cell?_of_block (a := ⟨wo.heap.size, 0, none⟩) (Below.heap_alloc W5 _ wo.heap.size hs5)).trans q0, (World.cell?_of_block (a := ⟨wo.heap.size, 1, none⟩) (Below.heap_alloc W5 _ wo.heap.size hs5)).trans q1⟩ | exact ⟨g72, g73⟩ | exact ⟨(World.cell?_of_block (a := ⟨wo.heap.size, 0, none⟩) (heap_set_other (p := ⟨nB, 1, none⟩) (Nat.ne_of_gt hnw))).trans g72, (World.cell?_of_block (a := ⟨wo.heap.size, 1, none⟩) (heap_set_other (p := ⟨nB, 1, none⟩) (Nat.ne_of_gt hnw))).trans g73⟩ | go_keep)
          clear hK K
          try simp only [Act.put, List.setIfInBounds_toArray, List.set_cons_zero, List.set_cons_succ]
          clear hHeld
          have hHeld := hNew
          clear hNew
          refine wpAnyH_ready (rs := [3]) (by kernel_rfl) (by simp) ?_
          refine AllReadyH.cons rfl (fun K hK => ?_) ?_
          · go_simp
            (go_at_call 80; refine HC.out.mono ?_; rintro e W5 ⟨N5, c5, O5, d5, rfl, g5, b5⟩; have hs5 : wo.heap.size < W5.heap.size := Nat.lt_of_lt_of_le hsl b5.size; have hn5 : nB < W5.heap.size := Nat.lt_of_lt_of_le hnl4 b5.size; have q0 := (b5.cell (p := ⟨wo.heap.size, 0, none⟩) hsl).trans y0; have q1 := (b5.cell (p := ⟨wo.heap.size, 1, none⟩) hsl).trans y1; have v1 := (b5.cell (p := ⟨nB, 1, none⟩) hnl4).trans z11; have vf := (b5.frozen (p := ⟨nB, 1, none⟩) hnl4).trans f1; have va := (World.cell?_of_block (a := ⟨nB, 1, none⟩) (Below.heap_alloc W5 (.cells #[.slice N5 sd.nx.length c5, .slice O5 sd.out.length d5] 113) nB hn5)).trans v1; have o5 := own_below HO1.out ((Below.drew (Below.refl _ W4)).trans b5) (Nat.le_refl _); have hbs5 : W3.heap.size ≤ W5.heap.size := by omega)
            try go_wp2_with fail
            refine hK.out _ _ ?_ (fun hNew => ?_)
            · (try dsimp only)
              (first | exact ⟨y0, y1⟩ | exact ⟨q0, q1⟩ | exact ⟨(World.cell?_of_block (a := ⟨wo.heap.size, 0, none⟩) (Below.heap_alloc W5 _ wo.heap.size hs5)).trans q0, (World.cell?_of_block (a := ⟨wo.heap.size, 1, none⟩) (Below.heap_alloc W5 _ wo.heap.size hs5)).trans q1⟩ | exact ⟨g72, g73⟩ | exact ⟨(World.cell?_of_block (a := ⟨wo.heap.size, 0, none⟩) (heap_set_other (p := ⟨nB, 1, none⟩) (Nat.ne_of_gt hnw))).trans g72, (World.cell?_of_block (a := ⟨wo.heap.size, 1, none⟩) (heap_set_other (p := ⟨nB, 1, none⟩) (Nat.ne_of_gt hnw))).trans g73⟩ | go_keep)
            clear hK K
            try simp only [Act.put, List.setIfInBounds_toArray, List.set_cons_zero, List.set_cons_succ]
            clear hHeld
            have hHeld := hNew
            clear hNew
            refine wpAnyH_ready (rs := [4]) (by kernel_rfl) (by simp) ?_
            refine AllReadyH.cons rfl (fun K hK => ?_) ?_
            · go_simp
              refine hK.out _ _ ?_ (fun hNew => ?_)
              · (try dsimp only)
                (first | exact ⟨y0, y1⟩ | exact ⟨q0, q1⟩ | exact ⟨(World.cell?_of_block (a := ⟨wo.heap.size, 0, none⟩) (Below.heap_alloc W5 _ wo.heap.size hs5)).trans q0, (World.cell?_of_block (a := ⟨wo.heap.size, 1, none⟩) (Below.heap_alloc W5 _ wo.heap.size hs5)).trans q1⟩ | exact ⟨g72, g73⟩ | exact ⟨(World.cell?_of_block (a := ⟨wo.heap.size, 0, none⟩) (heap_set_other (p := ⟨nB, 1, none⟩) (Nat.ne_of_gt hnw))).trans g72, (World.cell?_of_block (a := ⟨wo.heap.size, 1, none⟩) (heap_set_other (p := ⟨nB, 1, none⟩) (Nat.ne_of_gt hnw))).trans g73⟩ | go_keep)
              clear hK K
              try simp only [Act.put, List.setIfInBounds_toArray, List.set_cons_zero, List.set_cons_succ]
              clear hHeld
              have hHeld := hNew
              clear hNew
              refine wpAnyH_ready (rs := [5]) (by kernel_rfl) (by simp) ?_
              refine AllReadyH.cons rfl (fun K hK => ?_) ?_
              · (refine step_push (by rfl) _ _ _ (by rfl) W3.heap.size rowSd L i cL _ (by rfl) (o5.alloc _) W5.heap.size 1 _ (by rfl) (heap_alloc_new W5 _) (by rfl) (by simp [Value.oneCell']) (by unfold maxLen; omega) (by omega) (by simp; omega) ?_; intro N7 cN7 W7 hc7 ho7 hg7 hat7; have g70 := (grown_cell hg7 (a := ⟨nB, 1, none⟩) (by simp; omega) hneg).1.trans va; have g71 := (grown_cell hg7 (a := ⟨nB, 1, none⟩) (by simp; omega) hneg).2.trans ((World.frozen?_of_block (a := ⟨nB, 1, none⟩) (Below.heap_alloc W5 (.cells #[.slice N5 sd.nx.length c5, .slice O5 sd.out.length d5] 113) nB hn5)).trans vf); have g72 := (grown_cell hg7 (a := ⟨wo.heap.size, 0, none⟩) (by simp; omega) hnes).1.trans ((World.cell?_of_block (a := ⟨wo.heap.size, 0, none⟩) (Below.heap_alloc W5 (.cells #[.slice N5 sd.nx.length c5, .slice O5 sd.out.length d5] 113) wo.heap.size hs5)).trans q0); have g73 := (grown_cell hg7 (a := ⟨wo.heap.size, 1, none⟩) (by simp; omega) hnes).1.trans ((World.cell?_of_block (a := ⟨wo.heap.size, 1, none⟩) (Below.heap_alloc W5 (.cells #[.slice N5 sd.nx.length c5, .slice O5 sd.out.length d5] 113) wo.heap.size hs5)).trans q1))
                refine hK.out _ _ ?_ (fun hNew => ?_)
                · (try dsimp only)
                  (first | exact ⟨y0, y1⟩ | exact ⟨q0, q1⟩ | exact ⟨(World.cell?_of_block (a := ⟨wo.heap.size, 0, none⟩) (Below.heap_alloc W5 _ wo.heap.size hs5)).trans q0, (World.cell?_of_block (a := ⟨wo.heap.size, 1, none⟩) (Below.heap_alloc W5 _ wo.heap.size hs5)).trans q1⟩ | exact ⟨g72, g73⟩ | exact ⟨(World.cell?_of_block (a := ⟨wo.heap.size, 0, none⟩) (heap_set_other (p := ⟨nB, 1, none⟩) (Nat.ne_of_gt hnw))).trans g72, (World.cell?_of_block (a := ⟨wo.heap.size, 1, none⟩) (heap_set_other (p := ⟨nB, 1, none⟩) (Nat.ne_of_gt hnw))).trans g73⟩ | go_keep)
                clear hK K
                try simp only [Act.put, List.setIfInBounds_toArray]
                clear hHeld
                have hHeld := hNew
                clear hNew
                refine wpAnyH_take (i := 6) (v := ?_) rfl (by kernel_rfl) (by kernel_rfl) (by kernel_rfl) (fun _ _ _ h => h) (Or.inl ⟨by rfl, ?_⟩) (by assumption) ?_
                rotate_left
                · (intro w hSw; (try dsimp only at hSw); go_simp; try with_reducible rfl)
                try simp only [Act.put]
                refine wpAnyH_ready (rs := [7]) (by kernel_rfl) (by simp) ?_
                refine AllReadyH.cons rfl (fun K hK => ?_) ?_
                · go_simp
                  refine hK.out _ _ ?_ (fun hNew => ?_)
                  · (try dsimp only)
                    (first | exact ⟨y0, y1⟩ | exact ⟨q0, q1⟩ | exact ⟨(World.cell?_of_block (a := ⟨wo.heap.size, 0, none⟩) (Below.heap_alloc W5 _ wo.heap.size hs5)).trans q0, (World.cell?_of_block (a := ⟨wo.heap.size, 1, none⟩) (Below.heap_alloc W5 _ wo.heap.size hs5)).trans q1⟩ | exact ⟨g72, g73⟩ | exact ⟨(World.cell?_of_block (a := ⟨wo.heap.size, 0, none⟩) (heap_set_other (p := ⟨nB, 1, none⟩) (Nat.ne_of_gt hnw))).trans g72, (World.cell?_of_block (a := ⟨wo.heap.size, 1, none⟩) (heap_set_other (p := ⟨nB, 1, none⟩) (Nat.ne_of_gt hnw))).trans g73⟩ | go_keep)
                  clear hK K
                  try simp only [Act.put, List.setIfInBounds_toArray, List.set_cons_zero, List.set_cons_succ]
                  clear hHeld
                  have hHeld := hNew
                  clear hNew
                  refine wpAnyH_done (by kernel_rfl) ?_ _
                  refine NoPanic.normal ?_
                  have hbw5 : Below W4.heap.size W4 W5 := (Below.drew (Below.refl _ W4)).trans b5
                  have hba := (Below.refl _ W5).alloc (Nat.le_refl _) (.cells #[.slice N5 sd.nx.length c5, .slice O5 sd.out.length d5] 113)
                  have hgc7 := (hg7.block nB (by simp; omega) hneg).trans ((hba.block nB hn5).trans ((hbw5.block nB hnl4).trans HG4.out))
                  have hgc8 := heap_setCell_same W7 nB 1 _ _ (.slice N7 (i + 1) cN7) hgc7
                  rw [show (#[Value.int .i64 h.K, .slice L i cL, .slice N h.root.nx.length cN, .slice O h.root.out.length cO].setIfInBounds 1 (.slice N7 (i + 1) cN7)) = #[.int .i64 h.K, .slice N7 (i + 1) cN7, .slice N h.root.nx.length cN, .slice O h.root.out.length cO] from rfl] at hgc8
                  have hNl : ∀ q, (Value.slice L i cL).ownBlock = some q → W3.heap.size ≤ q ∧ q < W4.heap.size := fun q hq => HO1.out.lt q hq
                  have hap : ∀ q, W4.heap.size ≤ q ∧ q < W5.heap.size → Apart W3.heap.size (W5.alloc (.cells #[.slice N5 sd.nx.length c5, .slice O5 sd.out.length d5] 113)) (.slice L i cL) q := fun q hq => ⟨by omega, Nat.lt_of_lt_of_le hq.2 hba.size, fun e => by have := (hNl q e).2; omega⟩
                  have hg5s : SdV W5 (fun b => W4.heap.size ≤ b ∧ b < W5.heap.size) ⟨sd.nx, sd.out⟩ N5 c5 O5 d5 := g5.sd
                  have h7 := OwnC.push (apart_below (apart_below HO2.out hbw5) hba) ho7 hg7 hat7 (show CsIsP _ _ (sdC sd) [.slice N5 sd.nx.length c5, .slice O5 sd.out.length d5] from
                    CsIsP.cons (CIsP.sl ((SlP.keep hg5s.nx fun p hp => hba.cell hp.2).more hap) hg5s.le1) (CsIsP.cons (CIsP.sl ((SlP.keep hg5s.out fun p hp => hba.cell hp.2).more hap) hg5s.le2) (CsIsP.nil _ _)))
                  have h8 : OwnC (W7.setCell ⟨nB, 1, none⟩ (.slice N7 (i + 1) cN7)) W3.heap.size 113 2 N7 (i + 1) cN7 ((h.labs.take (i + 1)).flatMap sdC) := by
                    have h9 := h7.far (w' := W7.setCell ⟨nB, 1, none⟩ (.slice N7 (i + 1) cN7)) (by rw [size_set]; exact Nat.le_refl _) fun q hq _ => heap_set_other (p := ⟨nB, 1, none⟩) (by show q ≠ nB; omega)
                    rw [HTK.out]
                    exact h9
                  have hwb : Below W1.heap.size W1 W5 := HBR.out.trans ((HAL.out.1.trans (hbw5.mono HAL.out.1.size)).mono hw1)
                  have hb8 : Below W1.heap.size W1 (W7.setCell ⟨nB, 1, none⟩ (.slice N7 (i + 1) cN7)) := ((hwb.alloc (by omega) _).grown hg7 (by simp; omega) (fun q hq => by have := (hNl q hq).1; omega)).setCell (p := ⟨nB, 1, none⟩) hnb _
                  have hf8 : ∀ q, q < W3.heap.size → q ≠ nB → (W7.setCell ⟨nB, 1, none⟩ (.slice N7 (i + 1) cN7)).heap[q]? = W3.heap[q]? := fun q hq hq2 => (heap_set_other (p := ⟨nB, 1, none⟩) hq2).trans ((hg7.block q (by simp; omega) (fun e => by have := (hNl q e.symm).1; omega)).trans ((hba.block q (by omega)).trans ((hbw5.block q (by omega)).trans ((HAL.out.1.block q (by omega)).trans (HAL.out.2.out q hq hq2)))))
                  have hs8 : W3.heap.size ≤ (W7.setCell ⟨nB, 1, none⟩ (.slice N7 (i + 1) cN7)).heap.size := by
                    rw [size_set]
                    have h9 := hg7.size
                    simp at h9
                    omega
                  have HB8 := Lib.hid hb8
                  have HO8 := Lib.hid h8
                  have HC8 := Lib.hid hgc8
                  have HF8 := Lib.hid hf8
                  clear hbw5 hba hgc7 hgc8 hNl hap hg5s h7 h8 hwb hb8 hf8 ho7 hg7 hat7 hHeld b5 g5 o5 q0 q1 v1 vf va g70 g71 g72 g73 y0 y1 z11 f1 hc7
                  generalize W7.setCell ⟨nB, 1, none⟩ (.slice N7 (i + 1) cN7) = W8 at *
                  go_wp2
                  go_roundw
                  case rel => exact ⟨i + 1, cN7, N7, by go_num, by omega, HC8.out, HO8.out, HF8.out, hs8, HB8.out⟩
                  case measure => simp [intOf]; omega
                exact AllReadyH.nil
              exact AllReadyH.nil
            exact AllReadyH.nil
          exact AllReadyH.nil
        refine AllReadyH.cons rfl (fun K hK => ?_) ?_
        · go_simp
          (go_at_call 80; refine HC.out.mono ?_; rintro e W5 ⟨N5, c5, O5, d5, rfl, g5, b5⟩; have hs5 : wo.heap.size < W5.heap.size := Nat.lt_of_lt_of_le hsl b5.size; have hn5 : nB < W5.heap.size := Nat.lt_of_lt_of_le hnl4 b5.size; have q0 := (b5.cell (p := ⟨wo.heap.size, 0, none⟩) hsl).trans y0; have q1 := (b5.cell (p := ⟨wo.heap.size, 1, none⟩) hsl).trans y1; have v1 := (b5.cell (p := ⟨nB, 1, none⟩) hnl4).trans z11; have vf := (b5.frozen (p := ⟨nB, 1, none⟩) hnl4).trans f1; have va := (World.cell?_of_block (a := ⟨nB, 1, none⟩) (Below.heap_alloc W5 (.cells #[.slice N5 sd.nx.length c5, .slice O5 sd.out.length d5] 113) nB hn5)).trans v1; have o5 := own_below HO1.out ((Below.drew (Below.refl _ W4)).trans b5) (Nat.le_refl _); have hbs5 : W3.heap.size ≤ W5.heap.size := by omega)
          try go_wp2_with fail
          refine hK.out _ _ ?_ (fun hNew => ?_)
          · (try dsimp only)
            (first | exact ⟨y0, y1⟩ | exact ⟨q0, q1⟩ | exact ⟨(World.cell?_of_block (a := ⟨wo.heap.size, 0, none⟩) (Below.heap_alloc W5 _ wo.heap.size hs5)).trans q0, (World.cell?_of_block (a := ⟨wo.heap.size, 1, none⟩) (Below.heap_alloc W5 _ wo.heap.size hs5)).trans q1⟩ | exact ⟨g72, g73⟩ | exact ⟨(World.cell?_of_block (a := ⟨wo.heap.size, 0, none⟩) (heap_set_other (p := ⟨nB, 1, none⟩) (Nat.ne_of_gt hnw))).trans g72, (World.cell?_of_block (a := ⟨wo.heap.size, 1, none⟩) (heap_set_other (p := ⟨nB, 1, none⟩) (Nat.ne_of_gt hnw))).trans g73⟩ | go_keep)
          clear hK K
          try simp only [Act.put, List.setIfInBounds_toArray, List.set_cons_zero, List.set_cons_succ]
          clear hHeld
          have hHeld := hNew
          clear hNew
          refine wpAnyH_ready (rs := [1, 4]) (by kernel_rfl) (by simp) ?_
          refine AllReadyH.cons rfl (fun K hK => ?_) ?_
          · go_simp
            refine hK.out _ _ ?_ (fun hNew => ?_)
            · (try dsimp only)
              (first | exact ⟨y0, y1⟩ | exact ⟨q0, q1⟩ | exact ⟨(World.cell?_of_block (a := ⟨wo.heap.size, 0, none⟩) (Below.heap_alloc W5 _ wo.heap.size hs5)).trans q0, (World.cell?_of_block (a := ⟨wo.heap.size, 1, none⟩) (Below.heap_alloc W5 _ wo.heap.size hs5)).trans q1⟩ | exact ⟨g72, g73⟩ | exact ⟨(World.cell?_of_block (a := ⟨wo.heap.size, 0, none⟩) (heap_set_other (p := ⟨nB, 1, none⟩) (Nat.ne_of_gt hnw))).trans g72, (World.cell?_of_block (a := ⟨wo.heap.size, 1, none⟩) (heap_set_other (p := ⟨nB, 1, none⟩) (Nat.ne_of_gt hnw))).trans g73⟩ | go_keep)
            clear hK K
            try simp only [Act.put, List.setIfInBounds_toArray, List.set_cons_zero, List.set_cons_succ]
            clear hHeld
            have hHeld := hNew
            clear hNew
            refine wpAnyH_ready (rs := [4]) (by kernel_rfl) (by simp) ?_
            refine AllReadyH.cons rfl (fun K hK => ?_) ?_
            · go_simp
              refine hK.out _ _ ?_ (fun hNew => ?_)
              · (try dsimp only)
                (first | exact ⟨y0, y1⟩ | exact ⟨q0, q1⟩ | exact ⟨(World.cell?_of_block (a := ⟨wo.heap.size, 0, none⟩) (Below.heap_alloc W5 _ wo.heap.size hs5)).trans q0, (World.cell?_of_block (a := ⟨wo.heap.size, 1, none⟩) (Below.heap_alloc W5 _ wo.heap.size hs5)).trans q1⟩ | exact ⟨g72, g73⟩ | exact ⟨(World.cell?_of_block (a := ⟨wo.heap.size, 0, none⟩) (heap_set_other (p := ⟨nB, 1, none⟩) (Nat.ne_of_gt hnw))).trans g72, (World.cell?_of_block (a := ⟨wo.heap.size, 1, none⟩) (heap_set_other (p := ⟨nB, 1, none⟩) (Nat.ne_of_gt hnw))).trans g73⟩ | go_keep)
              clear hK K
              try simp only [Act.put, List.setIfInBounds_toArray, List.set_cons_zero, List.set_cons_succ]
              clear hHeld
              have hHeld := hNew
              clear hNew
              refine wpAnyH_ready (rs := [5]) (by kernel_rfl) (by simp) ?_
              refine AllReadyH.cons rfl (fun K hK => ?_) ?_
              · (refine step_push (by rfl) _ _ _ (by rfl) W3.heap.size rowSd L i cL _ (by rfl) (o5.alloc _) W5.heap.size 1 _ (by rfl) (heap_alloc_new W5 _) (by rfl) (by simp [Value.oneCell']) (by unfold maxLen; omega) (by omega) (by simp; omega) ?_; intro N7 cN7 W7 hc7 ho7 hg7 hat7; have g70 := (grown_cell hg7 (a := ⟨nB, 1, none⟩) (by simp; omega) hneg).1.trans va; have g71 := (grown_cell hg7 (a := ⟨nB, 1, none⟩) (by simp; omega) hneg).2.trans ((World.frozen?_of_block (a := ⟨nB, 1, none⟩) (Below.heap_alloc W5 (.cells #[.slice N5 sd.nx.length c5, .slice O5 sd.out.length d5] 113) nB hn5)).trans vf); have g72 := (grown_cell hg7 (a := ⟨wo.heap.size, 0, none⟩) (by simp; omega) hnes).1.trans ((World.cell?_of_block (a := ⟨wo.heap.size, 0, none⟩) (Below.heap_alloc W5 (.cells #[.slice N5 sd.nx.length c5, .slice O5 sd.out.length d5] 113) wo.heap.size hs5)).trans q0); have g73 := (grown_cell hg7 (a := ⟨wo.heap.size, 1, none⟩) (by simp; omega) hnes).1.trans ((World.cell?_of_block (a := ⟨wo.heap.size, 1, none⟩) (Below.heap_alloc W5 (.cells #[.slice N5 sd.nx.length c5, .slice O5 sd.out.length d5] 113) wo.heap.size hs5)).trans q1))
                refine hK.out _ _ ?_ (fun hNew => ?_)
                · (try dsimp only)
                  (first | exact ⟨y0, y1⟩ | exact ⟨q0, q1⟩ | exact ⟨(World.cell?_of_block (a := ⟨wo.heap.size, 0, none⟩) (Below.heap_alloc W5 _ wo.heap.size hs5)).trans q0, (World.cell?_of_block (a := ⟨wo.heap.size, 1, none⟩) (Below.heap_alloc W5 _ wo.heap.size hs5)).trans q1⟩ | exact ⟨g72, g73⟩ | exact ⟨(World.cell?_of_block (a := ⟨wo.heap.size, 0, none⟩) (heap_set_other (p := ⟨nB, 1, none⟩) (Nat.ne_of_gt hnw))).trans g72, (World.cell?_of_block (a := ⟨wo.heap.size, 1, none⟩) (heap_set_other (p := ⟨nB, 1, none⟩) (Nat.ne_of_gt hnw))).trans g73⟩ | go_keep)
                clear hK K
                try simp only [Act.put, List.setIfInBounds_toArray]
                clear hHeld
                have hHeld := hNew
                clear hNew
                refine wpAnyH_take (i := 6) (v := ?_) rfl (by kernel_rfl) (by kernel_rfl) (by kernel_rfl) (fun _ _ _ h => h) (Or.inl ⟨by rfl, ?_⟩) (by assumption) ?_
                rotate_left
                · (intro w hSw; (try dsimp only at hSw); go_simp; try with_reducible rfl)
                try simp only [Act.put]
                refine wpAnyH_ready (rs := [7]) (by kernel_rfl) (by simp) ?_
                refine AllReadyH.cons rfl (fun K hK => ?_) ?_
                · go_simp
                  refine hK.out _ _ ?_ (fun hNew => ?_)
                  · (try dsimp only)
                    (first | exact ⟨y0, y1⟩ | exact ⟨q0, q1⟩ | exact ⟨(World.cell?_of_block (a := ⟨wo.heap.size, 0, none⟩) (Below.heap_alloc W5 _ wo.heap.size hs5)).trans q0, (World.cell?_of_block (a := ⟨wo.heap.size, 1, none⟩) (Below.heap_alloc W5 _ wo.heap.size hs5)).trans q1⟩ | exact ⟨g72, g73⟩ | exact ⟨(World.cell?_of_block (a := ⟨wo.heap.size, 0, none⟩) (heap_set_other (p := ⟨nB, 1, none⟩) (Nat.ne_of_gt hnw))).trans g72, (World.cell?_of_block (a := ⟨wo.heap.size, 1, none⟩) (heap_set_other (p := ⟨nB, 1, none⟩) (Nat.ne_of_gt hnw))).trans g73⟩ | go_keep)
                  clear hK K
                  try simp only [Act.put, List.setIfInBounds_toArray, List.set_cons_zero, List.set_cons_succ]
                  clear hHeld
                  have hHeld := hNew
                  clear hNew
                  refine wpAnyH_done (by kernel_rfl) ?_ _
                  refine NoPanic.normal ?_
                  have hbw5 : Below W4.heap.size W4 W5 := (Below.drew (Below.refl _ W4)).trans b5
                  have hba := (Below.refl _ W5).alloc (Nat.le_refl _) (.cells #[.slice N5 sd.nx.length c5, .slice O5 sd.out.length d5] 113)
                  have hgc7 := (hg7.block nB (by simp; omega) hneg).trans ((hba.block nB hn5).trans ((hbw5.block nB hnl4).trans HG4.out))
                  have hgc8 := heap_setCell_same W7 nB 1 _ _ (.slice N7 (i + 1) cN7) hgc7
                  rw [show (#[Value.int .i64 h.K, .slice L i cL, .slice N h.root.nx.length cN, .slice O h.root.out.length cO].setIfInBounds 1 (.slice N7 (i + 1) cN7)) = #[.int .i64 h.K, .slice N7 (i + 1) cN7, .slice N h.root.nx.length cN, .slice O h.root.out.length cO] from rfl] at hgc8
                  have hNl : ∀ q, (Value.slice L i cL).ownBlock = some q → W3.heap.size ≤ q ∧ q < W4.heap.size := fun q hq => HO1.out.lt q hq
                  have hap : ∀ q, W4.heap.size ≤ q ∧ q < W5.heap.size → Apart W3.heap.size (W5.alloc (.cells #[.slice N5 sd.nx.length c5, .slice O5 sd.out.length d5] 113)) (.slice L i cL) q := fun q hq => ⟨by omega, Nat.lt_of_lt_of_le hq.2 hba.size, fun e => by have := (hNl q e).2; omega⟩
                  have hg5s : SdV W5 (fun b => W4.heap.size ≤ b ∧ b < W5.heap.size) ⟨sd.nx, sd.out⟩ N5 c5 O5 d5 := g5.sd
                  have h7 := OwnC.push (apart_below (apart_below HO2.out hbw5) hba) ho7 hg7 hat7 (show CsIsP _ _ (sdC sd) [.slice N5 sd.nx.length c5, .slice O5 sd.out.length d5] from
                    CsIsP.cons (CIsP.sl ((SlP.keep hg5s.nx fun p hp => hba.cell hp.2).more hap) hg5s.le1) (CsIsP.cons (CIsP.sl ((SlP.keep hg5s.out fun p hp => hba.cell hp.2).more hap) hg5s.le2) (CsIsP.nil _ _)))
                  have h8 : OwnC (W7.setCell ⟨nB, 1, none⟩ (.slice N7 (i + 1) cN7)) W3.heap.size 113 2 N7 (i + 1) cN7 ((h.labs.take (i + 1)).flatMap sdC) := by
                    have h9 := h7.far (w' := W7.setCell ⟨nB, 1, none⟩ (.slice N7 (i + 1) cN7)) (by rw [size_set]; exact Nat.le_refl _) fun q hq _ => heap_set_other (p := ⟨nB, 1, none⟩) (by show q ≠ nB; omega)
                    rw [HTK.out]
                    exact h9
                  have hwb : Below W1.heap.size W1 W5 := HBR.out.trans ((HAL.out.1.trans (hbw5.mono HAL.out.1.size)).mono hw1)
                  have hb8 : Below W1.heap.size W1 (W7.setCell ⟨nB, 1, none⟩ (.slice N7 (i + 1) cN7)) := ((hwb.alloc (by omega) _).grown hg7 (by simp; omega) (fun q hq => by have := (hNl q hq).1; omega)).setCell (p := ⟨nB, 1, none⟩) hnb _
                  have hf8 : ∀ q, q < W3.heap.size → q ≠ nB → (W7.setCell ⟨nB, 1, none⟩ (.slice N7 (i + 1) cN7)).heap[q]? = W3.heap[q]? := fun q hq hq2 => (heap_set_other (p := ⟨nB, 1, none⟩) hq2).trans ((hg7.block q (by simp; omega) (fun e => by have := (hNl q e.symm).1; omega)).trans ((hba.block q (by omega)).trans ((hbw5.block q (by omega)).trans ((HAL.out.1.block q (by omega)).trans (HAL.out.2.out q hq hq2)))))
                  have hs8 : W3.heap.size ≤ (W7.setCell ⟨nB, 1, none⟩ (.slice N7 (i + 1) cN7)).heap.size := by
                    rw [size_set]
                    have h9 := hg7.size
                    simp at h9
                    omega
                  have HB8 := Lib.hid hb8
                  have HO8 := Lib.hid h8
                  have HC8 := Lib.hid hgc8
                  have HF8 := Lib.hid hf8
                  clear hbw5 hba hgc7 hgc8 hNl hap hg5s h7 h8 hwb hb8 hf8 ho7 hg7 hat7 hHeld b5 g5 o5 q0 q1 v1 vf va g70 g71 g72 g73 y0 y1 z11 f1 hc7
                  generalize W7.setCell ⟨nB, 1, none⟩ (.slice N7 (i + 1) cN7) = W8 at *
                  go_wp2
                  go_roundw
                  case rel => exact ⟨i + 1, cN7, N7, by go_num, by omega, HC8.out, HO8.out, HF8.out, hs8, HB8.out⟩
                  case measure => simp [intOf]; omega
                exact AllReadyH.nil
              exact AllReadyH.nil
            exact AllReadyH.nil
          refine AllReadyH.cons rfl (fun K hK => ?_) ?_
          · go_simp
            refine hK.out _ _ ?_ (fun hNew => ?_)
            · (try dsimp only)
              (first | exact ⟨y0, y1⟩ | exact ⟨q0, q1⟩ | exact ⟨(World.cell?_of_block (a := ⟨wo.heap.size, 0, none⟩) (Below.heap_alloc W5 _ wo.heap.size hs5)).trans q0, (World.cell?_of_block (a := ⟨wo.heap.size, 1, none⟩) (Below.heap_alloc W5 _ wo.heap.size hs5)).trans q1⟩ | exact ⟨g72, g73⟩ | exact ⟨(World.cell?_of_block (a := ⟨wo.heap.size, 0, none⟩) (heap_set_other (p := ⟨nB, 1, none⟩) (Nat.ne_of_gt hnw))).trans g72, (World.cell?_of_block (a := ⟨wo.heap.size, 1, none⟩) (heap_set_other (p := ⟨nB, 1, none⟩) (Nat.ne_of_gt hnw))).trans g73⟩ | go_keep)
            clear hK K
            try simp only [Act.put, List.setIfInBounds_toArray, List.set_cons_zero, List.set_cons_succ]
            clear hHeld
            have hHeld := hNew
            clear hNew
            refine wpAnyH_ready (rs := [1]) (by kernel_rfl) (by simp) ?_
            refine AllReadyH.cons rfl (fun K hK => ?_) ?_
            · go_simp
              refine hK.out _ _ ?_ (fun hNew => ?_)
              · (try dsimp only)
                (first | exact ⟨y0, y1⟩ | exact ⟨q0, q1⟩ | exact ⟨(World.cell?_of_block (a := ⟨wo.heap.size, 0, none⟩) (Below.heap_alloc W5 _ wo.heap.size hs5)).trans q0, (World.cell?_of_block (a := ⟨wo.heap.size, 1, none⟩) (Below.heap_alloc W5 _ wo.heap.size hs5)).trans q1⟩ | exact ⟨g72, g73⟩ | exact ⟨(World.cell?_of_block (a := ⟨wo.heap.size, 0, none⟩) (heap_set_other (p := ⟨nB, 1, none⟩) (Nat.ne_of_gt hnw))).trans g72, (World.cell?_of_block (a := ⟨wo.heap.size, 1, none⟩) (heap_set_other (p := ⟨nB, 1, none⟩) (Nat.ne_of_gt hnw))).trans g73⟩ | go_keep)
              clear hK K
              try simp only [Act.put, List.setIfInBounds_toArray, List.set_cons_zero, List.set_cons_succ]
              clear hHeld
              have hHeld := hNew
              clear hNew
              refine wpAnyH_ready (rs := [5]) (by kernel_rfl) (by simp) ?_
              refine AllReadyH.cons rfl (fun K hK => ?_) ?_
              · (refine step_push (by rfl) _ _ _ (by rfl) W3.heap.size rowSd L i cL _ (by rfl) (o5.alloc _) W5.heap.size 1 _ (by rfl) (heap_alloc_new W5 _) (by rfl) (by simp [Value.oneCell']) (by unfold maxLen; omega) (by omega) (by simp; omega) ?_; intro N7 cN7 W7 hc7 ho7 hg7 hat7; have g70 := (grown_cell hg7 (a := ⟨nB, 1, none⟩) (by simp; omega) hneg).1.trans va; have g71 := (grown_cell hg7 (a := ⟨nB, 1, none⟩) (by simp; omega) hneg).2.trans ((World.frozen?_of_block (a := ⟨nB, 1, none⟩) (Below.heap_alloc W5 (.cells #[.slice N5 sd.nx.length c5, .slice O5 sd.out.length d5] 113) nB hn5)).trans vf); have g72 := (grown_cell hg7 (a := ⟨wo.heap.size, 0, none⟩) (by simp; omega) hnes).1.trans ((World.cell?_of_block (a := ⟨wo.heap.size, 0, none⟩) (Below.heap_alloc W5 (.cells #[.slice N5 sd.nx.length c5, .slice O5 sd.out.length d5] 113) wo.heap.size hs5)).trans q0); have g73 := (grown_cell hg7 (a := ⟨wo.heap.size, 1, none⟩) (by simp; omega) hnes).1.trans ((World.cell?_of_block (a := ⟨wo.heap.size, 1, none⟩) (Below.heap_alloc W5 (.cells #[.slice N5 sd.nx.length c5, .slice O5 sd.out.length d5] 113) wo.heap.size hs5)).trans q1))
                refine hK.out _ _ ?_ (fun hNew => ?_)
                · (try dsimp only)
                  (first | exact ⟨y0, y1⟩ | exact ⟨q0, q1⟩ | exact ⟨(World.cell?_of_block (a := ⟨wo.heap.size, 0, none⟩) (Below.heap_alloc W5 _ wo.heap.size hs5)).trans q0, (World.cell?_of_block (a := ⟨wo.heap.size, 1, none⟩) (Below.heap_alloc W5 _ wo.heap.size hs5)).trans q1⟩ | exact ⟨g72, g73⟩ | exact ⟨(World.cell?_of_block (a := ⟨wo.heap.size, 0, none⟩) (heap_set_other (p := ⟨nB, 1, none⟩) (Nat.ne_of_gt hnw))).trans g72, (World.cell?_of_block (a := ⟨wo.heap.size, 1, none⟩) (heap_set_other (p := ⟨nB, 1, none⟩) (Nat.ne_of_gt hnw))).trans g73⟩ | go_keep)
                clear hK K
                try simp only [Act.put, List.setIfInBounds_toArray]
                clear hHeld
                have hHeld := hNew
                clear hNew
                refine wpAnyH_take (i := 6) (v := ?_) rfl (by kernel_rfl) (by kernel_rfl) (by kernel_rfl) (fun _ _ _ h => h) (Or.inl ⟨by rfl, ?_⟩) (by assumption) ?_
                rotate_left
                · (intro w hSw; (try dsimp only at hSw); go_simp; try with_reducible rfl)
                try simp only [Act.put]
                refine wpAnyH_ready (rs := [7]) (by kernel_rfl) (by simp) ?_
                refine AllReadyH.cons rfl (fun K hK => ?_) ?_
                · go_simp
                  refine hK.out _ _ ?_ (fun hNew => ?_)
                  · (try dsimp only)
                    (first | exact ⟨y0, y1⟩ | exact ⟨q0, q1⟩ | exact ⟨(World.cell?_of_block (a := ⟨wo.heap.size, 0, none⟩) (Below.heap_alloc W5 _ wo.heap.size hs5)).trans q0, (World.cell?_of_block (a := ⟨wo.heap.size, 1, none⟩) (Below.heap_alloc W5 _ wo.heap.size hs5)).trans q1⟩ | exact ⟨g72, g73⟩ | exact ⟨(World.cell?_of_block (a := ⟨wo.heap.size, 0, none⟩) (heap_set_other (p := ⟨nB, 1, none⟩) (Nat.ne_of_gt hnw))).trans g72, (World.cell?_of_block (a := ⟨wo.heap.size, 1, none⟩) (heap_set_other (p := ⟨nB, 1, none⟩) (Nat.ne_of_gt hnw))).trans g73⟩ | go_keep)
                  clear hK K
                  try simp only [Act.put, List.setIfInBounds_toArray, List.set_cons_zero, List.set_cons_succ]
                  clear hHeld
                  have hHeld := hNew
                  clear hNew
                  refine wpAnyH_done (by kernel_rfl) ?_ _
                  refine NoPanic.normal ?_
                  have hbw5 : Below W4.heap.size W4 W5 := (Below.drew (Below.refl _ W4)).trans b5
                  have hba := (Below.refl _ W5).alloc (Nat.le_refl _) (.cells #[.slice N5 sd.nx.length c5, .slice O5 sd.out.length d5] 113)
                  have hgc7 := (hg7.block nB (by simp; omega) hneg).trans ((hba.block nB hn5).trans ((hbw5.block nB hnl4).trans HG4.out))
                  have hgc8 := heap_setCell_same W7 nB 1 _ _ (.slice N7 (i + 1) cN7) hgc7
                  rw [show (#[Value.int .i64 h.K, .slice L i cL, .slice N h.root.nx.length cN, .slice O h.root.out.length cO].setIfInBounds 1 (.slice N7 (i + 1) cN7)) = #[.int .i64 h.K, .slice N7 (i + 1) cN7, .slice N h.root.nx.length cN, .slice O h.root.out.length cO] from rfl] at hgc8
                  have hNl : ∀ q, (Value.slice L i cL).ownBlock = some q → W3.heap.size ≤ q ∧ q < W4.heap.size := fun q hq => HO1.out.lt q hq
                  have hap : ∀ q, W4.heap.size ≤ q ∧ q < W5.heap.size → Apart W3.heap.size (W5.alloc (.cells #[.slice N5 sd.nx.length c5, .slice O5 sd.out.length d5] 113)) (.slice L i cL) q := fun q hq => ⟨by omega, Nat.lt_of_lt_of_le hq.2 hba.size, fun e => by have := (hNl q e).2; omega⟩
                  have hg5s : SdV W5 (fun b => W4.heap.size ≤ b ∧ b < W5.heap.size) ⟨sd.nx, sd.out⟩ N5 c5 O5 d5 := g5.sd
                  have h7 := OwnC.push (apart_below (apart_below HO2.out hbw5) hba) ho7 hg7 hat7 (show CsIsP _ _ (sdC sd) [.slice N5 sd.nx.length c5, .slice O5 sd.out.length d5] from
                    CsIsP.cons (CIsP.sl ((SlP.keep hg5s.nx fun p hp => hba.cell hp.2).more hap) hg5s.le1) (CsIsP.cons (CIsP.sl ((SlP.keep hg5s.out fun p hp => hba.cell hp.2).more hap) hg5s.le2) (CsIsP.nil _ _)))
                  have h8 : OwnC (W7.setCell ⟨nB, 1, none⟩ (.slice N7 (i + 1) cN7)) W3.heap.size 113 2 N7 (i + 1) cN7 ((h.labs.take (i + 1)).flatMap sdC) := by
                    have h9 := h7.far (w' := W7.setCell ⟨nB, 1, none⟩ (.slice N7 (i + 1) cN7)) (by rw [size_set]; exact Nat.le_refl _) fun q hq _ => heap_set_other (p := ⟨nB, 1, none⟩) (by show q ≠ nB; omega)
                    rw [HTK.out]
                    exact h9
                  have hwb : Below W1.heap.size W1 W5 := HBR.out.trans ((HAL.out.1.trans (hbw5.mono HAL.out.1.size)).mono hw1)
                  have hb8 : Below W1.heap.size W1 (W7.setCell ⟨nB, 1, none⟩ (.slice N7 (i + 1) cN7)) := ((hwb.alloc (by omega) _).grown hg7 (by simp; omega) (fun q hq => by have := (hNl q hq).1; omega)).setCell (p := ⟨nB, 1, none⟩) hnb _
                  have hf8 : ∀ q, q < W3.heap.size → q ≠ nB → (W7.setCell ⟨nB, 1, none⟩ (.slice N7 (i + 1) cN7)).heap[q]? = W3.heap[q]? := fun q hq hq2 => (heap_set_other (p := ⟨nB, 1, none⟩) hq2).trans ((hg7.block q (by simp; omega) (fun e => by have := (hNl q e.symm).1; omega)).trans ((hba.block q (by omega)).trans ((hbw5.block q (by omega)).trans ((HAL.out.1.block q (by omega)).trans (HAL.out.2.out q hq hq2)))))
                  have hs8 : W3.heap.size ≤ (W7.setCell ⟨nB, 1, none⟩ (.slice N7 (i + 1) cN7)).heap.size := by
                    rw [size_set]
                    have h9 := hg7.size
                    simp at h9
                    omega
                  have HB8 := Lib.hid hb8
                  have HO8 := Lib.hid h8
                  have HC8 := Lib.hid hgc8
                  have HF8 := Lib.hid hf8
                  clear hbw5 hba hgc7 hgc8 hNl hap hg5s h7 h8 hwb hb8 hf8 ho7 hg7 hat7 hHeld b5 g5 o5 q0 q1 v1 vf va g70 g71 g72 g73 y0 y1 z11 f1 hc7
                  generalize W7.setCell ⟨nB, 1, none⟩ (.slice N7 (i + 1) cN7) = W8 at *
                  go_wp2
                  go_roundw
                  case rel => exact ⟨i + 1, cN7, N7, by go_num, by omega, HC8.out, HO8.out, HF8.out, hs8, HB8.out⟩
                  case measure => simp [intOf]; omega
                exact AllReadyH.nil
              exact AllReadyH.nil
            exact AllReadyH.nil
          exact AllReadyH.nil
        exact AllReadyH.nil
      · obtain rfl : i = h.labs.length := by omega
        have hgs : GS wo lo N cN O cO h.root.nx h.root.out := HN.out.gs.far (Nat.le_trans HN.out.sz hsz) fun q hq hq2 => (hfar.out q (Nat.lt_of_lt_of_le hq2 HN.out.sz) (HN.out.far q hq hq2).2).trans (HN.out.far q hq hq2).1
        have hg4 := hgs.2.1
        have hm : 0 < h.root.out.length := hO.root.pos
        obtain ⟨g, cap, hv, hg1, hg2⟩ := hg4.form hm
        injection hv with hv1 _ hv3
        subst hv1 hv3
        have hgn : g ≠ nB := by
          have h9 := HN.out.gs.2.1.lt g rfl
          exact (HN.out.far g h9.1 h9.2).2
        have k3 := Lib.cell_of_heap HGC.out 3
        simp only [List.getElem?_toArray, List.getElem?_cons_zero, List.getElem?_cons_succ] at k3
        have HGS := Lib.hid hgs
        have hmm : h.root.out.length ≤ 4 := hO.fewR
        have HOUT := Lib.hid hO.root.outs
        have HG4 := Lib.hid hg4
        have hbw : Below w.heap.size w wo := HB1.out.trans (HBR.out.mono HB1.out.size)
        have HBW := Lib.hid hbw
        have hlo : w.heap.size ≤ g := by have := HN.out.lo1; have := HB1.out.size; omega
        clear hgs hg4 hbw hlt
        go_wp2
        go_loopw [33] (fun iv wr => ∃ i : Nat, iv = .int .i64 i ∧ i ≤ h.root.out.length ∧ wr.ownsRow lo 3 1 (.slice (some ⟨g, 0, none⟩) h.root.out.length cO) h.root.out.length (ints (flip h.root.out i)) ∧ Hid (∀ q, q ≠ g → wr.heap[q]? = wo.heap[q]?) ∧ wr.heap.size = wo.heap.size ∧ Below w.heap.size w wr) (fun iv _ => h.root.out.length - (intOf iv).toNat)
        case atStart => exact ⟨0, rfl, Nat.zero_le _, HG4.out, fun _ _ => rfl, rfl, HBW.out⟩
        case round =>
          obtain ⟨j, rfl, hj, hown, hfr, hszr, hbb⟩ := hrel
          have HF := Lib.hid (And.intro hfr (And.intro hszr hbb))
          have HOW := Lib.hid hown
          have hx5 := (hfr.out nB (fun e => hgn e.symm)).trans HGC.out
          have k3 := Lib.cell_of_heap hx5 3
          simp only [List.getElem?_toArray, List.getElem?_cons_zero, List.getElem?_cons_succ] at k3
          by_cases hjl : j < h.root.out.length
          · obtain ⟨x, hx⟩ : ∃ x, h.root.out[j]? = some x := ⟨_, List.getElem?_eq_getElem hjl⟩
            have hx01 := HOUT.out x (List.mem_of_getElem? hx)
            have kc : wr.cell? ⟨g, j, none⟩ = some (.int .i64 x) := (hown.cellAt j (by omega)).trans (by unfold ints; rw [List.getElem?_map, flip_at hx]; rfl)
            have kf := hown.frozenAt j
            have hst := own_setz hown (i := j) (.int .i64 (1 - x))
            have hse : (ints (flip h.root.out j)).set j (.int .i64 (1 - x)) = ints (flip h.root.out (j + 1)) := by rw [← flip_set hx]; unfold ints; rw [List.map_set]
            rw [hse] at hst
            have HST := Lib.hid hst
            have hjI : (j : Int) < (h.root.out.length : Int) := by omega
            have hj0 : (0 : Int) ≤ (j : Int) := by omega
            clear hst hse hown hfr hszr hbb hx5 hx
            have hxc : x = 0 ∨ x = 1 := by omega
            rcases hxc with rfl | rfl
            all_goals
              go_wp2
              go_roundw
              case rel => exact ⟨j + 1, by go_num, by omega, HST.out, fun q hq => (heap_set_other (p := ⟨g, j, none⟩) hq).trans (HF.out.1.out q hq), by rw [size_set]; exact HF.out.2.1, HF.out.2.2.setCell (p := ⟨g, j, none⟩) hlo _⟩
              case measure => simp [intOf]; omega
          · obtain rfl : j = h.root.out.length := by omega
            have hrl : w.heap.size + 1 < W1.heap.size := hwl1
            have hgl : W1.heap.size ≤ g := Nat.le_trans HN.out.lo1 hg1
            have hg3 : g < W3.heap.size := by
              have h9 := HN.out.gs.2.1.lt g rfl
              exact Nat.lt_of_lt_of_le h9.2 HN.out.sz
            have hres := (hfr.out (w.heap.size + 1) (by omega)).trans ((HBR.out.block _ hwl1).trans HX1.out)
            have k0 := Lib.cell_of_heap hx5 0
            have k1 := Lib.cell_of_heap hx5 1
            have k2 := Lib.cell_of_heap hx5 2
            have y0 := Lib.cell_of_heap hres 0
            have y1 := Lib.cell_of_heap hres 1
            have y2 := Lib.cell_of_heap hres 2
            have y3 := Lib.cell_of_heap hres 3
            have f0 := Lib.frozen_of_heap hres 0
            have f1 := Lib.frozen_of_heap hres 1
            have f2 := Lib.frozen_of_heap hres 2
            have f3 := Lib.frozen_of_heap hres 3
            simp only [List.getElem?_toArray, List.getElem?_cons_zero, List.getElem?_cons_succ] at k0 k1 k2 y0 y1 y2 y3
            have HRES := Lib.hid hres
            have HEND : Hid (∀ W' : World, (∀ q, q ≠ w.heap.size + 1 → W'.heap[q]? = wr.heap[q]?) → W'.heap.size = wr.heap.size → HdV W' (fun b => w.heap.size ≤ b ∧ b < W'.heap.size) (notH h) L cL N cN (some ⟨g, 0, none⟩) cO) := Lib.hid fun W' hk hs => by
              have hs' : W'.heap.size = wo.heap.size := hs.trans hszr
              have hkk : ∀ q, q ≠ w.heap.size + 1 → q ≠ g → W'.heap[q]? = wo.heap[q]? := fun q h1 h2 => (hk q h1).trans (hfr.out q h2)
              obtain ⟨⟨xs, g1, g2⟩, g3, g4⟩ := HGS.out
              have hOL := HO.out
              rw [List.take_length] at hOL
              have hO2 := hOL.far (w' := W') (by omega) fun q hq _ => hkk q (by omega) (by omega)
              refine ⟨(hO2.sl.more fun b hb => ⟨by omega, hb.2⟩), hO2.le, ⟨⟨xs, ?_, ?_⟩, own_cap g1, ?_, ?_⟩⟩
              · refine ((rdP_own g1).keep fun p hp => World.cell?_of_block (hkk p.block (by have := hp.2.1; have := HN.out.lo1; omega) (fun e => g4 p.block hp.1 (by rw [e]; rfl)))).more fun b hb => ⟨by have := hb.2.1; have := HN.out.lo1; omega, by rw [hs']; exact hb.2.2⟩
              · refine (g2.keep fun p hp => World.cell?_of_block (hkk p.block (by have := hp.1; have := HN.out.lo1; omega) (fun e => hp.2.2.2 (by rw [e]; rfl)))).more fun b hb => ⟨by have := hb.1; have := HN.out.lo1; omega, by rw [hs']; exact hb.2.1⟩
              · have hfl : (notH h).root.out.length = h.root.out.length := flip_len _ _
                rw [hfl]
                exact ⟨_, ((RdP.of_own HOW.out).keep fun p hp => World.cell?_of_block (hk p.block (by have := hp.1; have := HN.out.lo1; omega))).more fun b hb => ⟨by have := hb.1; have := HN.out.lo1; omega, by rw [hs]; exact hb.2⟩, CsIsP.ints _ _ _⟩
              · have hfl : (notH h).root.out.length = h.root.out.length := flip_len _ _
                rw [hfl]
                exact own_cap HOW.out
            have hfl : (notH h).root.out.length = h.root.out.length := flip_len _ _
            have HFL := Lib.hid hfl
            clear hfl hres hx5 hown hfr hszr hbb
            go_wp2
            refine ret_hd rfl rfl rfl (four_stored HRES.out _ _ _ _) ⟨L, cL, N, cN, some ⟨g, 0, none⟩, cO, by unfold hdVal; rw [HFL.out]; rfl, HEND.out _ (fun q hq => ?_) (by simp only [size_set]), set4 HF.out.2.2 (Nat.le_succ _) _ _ _ _⟩
            rw [heap_set_other (p := ⟨w.heap.size + 1, 3, none⟩) hq, heap_set_other (p := ⟨w.heap.size + 1, 2, none⟩) hq, heap_set_other (p := ⟨w.heap.size + 1, 1, none⟩) hq, heap_set_other (p := ⟨w.heap.size + 1, 0, none⟩) hq]
end Go.Proofs.YtnkelhmjkmeilaaGreatDoor.H
end
