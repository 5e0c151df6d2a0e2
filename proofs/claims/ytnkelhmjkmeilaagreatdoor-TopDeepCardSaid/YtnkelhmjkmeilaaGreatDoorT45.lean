/- compile.maker.hedge at the two labels: the labels' sides. -/
import Derived.Test.YtnkelhmjkmeilaaGreatDoorT44
import Derived.Test.YtnkelhmjkmeilaaGreatDoorT30
section
namespace Go.Proofs.YtnkelhmjkmeilaaGreatDoor.H
open Go.RowKit Go.Maps Go.WideMaps
attribute [local go_sem ↓] Go.wp_at_zero Go.wp_at_succ
abbrev sdA (k : Int) : Sd := ⟨[[1, 1, 1], [1, 1, 1]], [k, 2]⟩
def labsA : List Sd := [sdA 0, sdA 1]
def rootA : Sd := ⟨[[2, 3, 3], [2, 3, 3], [3, 3, 3], [3, 3, 3]], [1, 1, 1, 0]⟩
theorem labsA_next {i : Nat} (h : i < 2) : labsA.take (i + 1) = labsA.take i ++ [sdA i] := by
  obtain rfl | rfl : i = 0 ∨ i = 1 := by omega
  · rfl
  · rfl
def HgAt (w : World) (b : Nat) (L : Option Addr) (n c : Nat) : Prop := w.heap[b]? = some (.cells #[.int .i64 3, .slice L n c, .slice none 0 0, .slice none 0 0] 115 (0, 0))
theorem five_of {w : World} {g : Nat} {v0 v1 v2 v3 v4 : Value} {T : TypeId} (h : w.heap[g]? = some (.cells #[v0, v1, v2, v3, v4] T (0, 0))) : w.cell? ⟨g, 0, none⟩ = some v0 ∧ w.cell? ⟨g, 1, none⟩ = some v1 ∧ w.cell? ⟨g, 2, none⟩ = some v2 ∧ w.cell? ⟨g, 3, none⟩ = some v3 ∧ w.cell? ⟨g, 4, none⟩ = some v4 := by
  have hc := fun j => Lib.cell_of_heap h j
  have c0 := hc 0
  have c1 := hc 1
  have c2 := hc 2
  have c3 := hc 3
  have c4 := hc 4
  simp only [List.getElem?_toArray, List.getElem?_cons_zero, List.getElem?_cons_succ] at c0 c1 c2 c3 c4
  exact ⟨c0, c1, c2, c3, c4⟩
theorem four_of {w : World} {g : Nat} {v0 v1 v2 v3 : Value} {T : TypeId} (h : w.heap[g]? = some (.cells #[v0, v1, v2, v3] T (0, 0))) : w.cell? ⟨g, 0, none⟩ = some v0 ∧ w.cell? ⟨g, 1, none⟩ = some v1 ∧ w.cell? ⟨g, 2, none⟩ = some v2 ∧ w.cell? ⟨g, 3, none⟩ = some v3 := by
  have hc := fun j => Lib.cell_of_heap h j
  have c0 := hc 0
  have c1 := hc 1
  have c2 := hc 2
  have c3 := hc 3
  simp only [List.getElem?_toArray, List.getElem?_cons_zero, List.getElem?_cons_succ] at c0 c1 c2 c3
  exact ⟨c0, c1, c2, c3⟩
theorem ten_of {w : World} {g : Nat} {v0 v1 v2 v3 v4 v5 v6 v7 v8 v9 : Value} {T : TypeId} (h : w.heap[g]? = some (.cells #[v0, v1, v2, v3, v4, v5, v6, v7, v8, v9] T (0, 0))) : w.cell? ⟨g, 0, none⟩ = some v0 ∧ w.cell? ⟨g, 1, none⟩ = some v1 ∧ w.cell? ⟨g, 2, none⟩ = some v2 ∧ w.cell? ⟨g, 3, none⟩ = some v3 ∧ w.cell? ⟨g, 4, none⟩ = some v4 ∧
    w.cell? ⟨g, 5, none⟩ = some v5 ∧ w.cell? ⟨g, 6, none⟩ = some v6 ∧ w.cell? ⟨g, 7, none⟩ = some v7 ∧ w.cell? ⟨g, 8, none⟩ = some v8 ∧ w.cell? ⟨g, 9, none⟩ = some v9 := by
  have hc := fun j => Lib.cell_of_heap h j
  have c0 := hc 0
  have c1 := hc 1
  have c2 := hc 2
  have c3 := hc 3
  have c4 := hc 4
  have c5 := hc 5
  have c6 := hc 6
  have c7 := hc 7
  have c8 := hc 8
  have c9 := hc 9
  simp only [List.getElem?_toArray, List.getElem?_cons_zero, List.getElem?_cons_succ] at c0 c1 c2 c3 c4 c5 c6 c7 c8 c9
  exact ⟨c0, c1, c2, c3, c4, c5, c6, c7, c8, c9⟩
def rowA (st p : Nat) : Int := if p = 0 ∧ st < 2 then 2 else 3
def outA (st : Nat) : Int := if st < 3 then 1 else 0
def RootRet (w : World) (e : Ending) (w' : World) : Prop := ∃ N c1 O c2, e = .returned (.agg #[.slice N 4 c1, .slice O 4 c2]) ∧ SdV w' (fun b => w.heap.size ≤ b ∧ b < w'.heap.size) rootA N c1 O c2 ∧ Below w.heap.size w w'
theorem root_ret {w w' : World} {e : Ending} (h : BothRet w rootA e w') : RootRet w e w' := h
theorem next_all {w : World} {T : Addr} {U : Option Addr} {cT cU g fa gR gS : Nat} (hL : LabsAt w g) (hS : w.heap[gS]? = some (.cells #[.bool true, .bool false] 4 (0, 0))) (st p : Nat) (hs : st < 4) (hp : p < 3) :
    Calls Tryz.prog 117 #[wiV T cT U cU g fa gR gS, .int .i64 (st : Int), .int .i64 (p : Int)] w fun e w' => e = .returned (.int .i64 (rowA st p)) ∧ Below w.heap.size w w' := by
  by_cases h : st = 3 ∨ p = 2
  · have h9 := next_out (w := w) (T := T) (U := U) (cT := cT) (cU := cU) (g := g) (fa := fa) (gR := gR) (gS := gS) st p (by omega) (by omega) h
    have e9 : rowA st p = 3 := by unfold rowA; rw [if_neg (by omega)]
    rw [e9]; exact h9
  · obtain rfl | rfl : p = 0 ∨ p = 1 := by omega
    · have h9 := next_0 (w := w) (T := T) (U := U) (cT := cT) (cU := cU) (g := g) (fa := fa) (gR := gR) (gS := gS) hL hS st (by omega)
      have e9 : rowA st 0 = if st < 2 then 2 else 3 := by unfold rowA; simp
      rw [e9]; exact h9
    · have h9 := next_1 (w := w) (T := T) (U := U) (cT := cT) (cU := cU) (g := g) (fa := fa) (gR := gR) (gS := gS) hL hS st (by omega)
      have e9 : rowA st 1 = 3 := by unfold rowA; rw [if_neg (by omega)]
      rw [e9]; exact h9
theorem accepts_all {w : World} {T : Addr} {U : Option Addr} {cT cU g fa gR gS : Nat} (st : Nat) (hs : st < 4) :
    Calls Tryz.prog 118 #[wiV T cT U cU g fa gR gS, .int .i64 (st : Int)] w fun e w' => e = .returned (.int .i64 (outA st)) ∧ Below w.heap.size w w' := by
  by_cases h : st < 3
  · have h9 := accepts_lt (w := w) (T := T) (U := U) (cT := cT) (cU := cU) (g := g) (fa := fa) (gR := gR) (gS := gS) st h
    have e9 : outA st = 1 := by unfold outA; rw [if_pos h]
    rw [e9]; exact h9
  · obtain rfl : st = 3 := by omega
    exact accepts_3
theorem dead_any {T : Addr} {U : Option Addr} {cT cU g fa gR gS : Nat} (w : World) : Calls Tryz.prog 116 #[wiV T cT U cU g fa gR gS] w fun e w' => e = .returned (.int .i64 3) ∧ Below w.heap.size w w' :=
  (dead_eq (w := w) (T := T) (U := U) (cT := cT) (cU := cU) (g := g) (fa := fa) (gR := gR) (gS := gS)).mono fun e w' h => ⟨h.1, by rw [h.2]; exact (Below.refl _ w).alloc (Nat.le_refl _) _⟩
set_option maxHeartbeats 8000000 in
set_option maxRecDepth 100000 in
theorem hedge_any {w : World} {T : Addr} {U : Option Addr} {cT cU g fa : Nat} (hL : LabsAt w g) (hT : w.cell? T = some (strV wText)) :
    Calls Tryz.prog 79 #[mkrV T cT U cU g fa] w fun e w' => ∃ A c B c1 C c2, e = .returned (hdVal ⟨3, labsA, rootA⟩ A c B c1 C c2) ∧ HdV w' (fun b => w.heap.size ≤ b ∧ b < w'.heap.size) ⟨3, labsA, rootA⟩ A c B c1 C c2 ∧ Below w.heap.size w w' := by
  obtain ⟨W1, hW1⟩ : ∃ W1, W1 = ((w.alloc (.cells #[.slice (some T) 1 cT, .slice none 0 0, .slice U 0 cU, .slice (some ⟨g, 0, none⟩) 2 2, .func (.func fa) #[] #[]] 153)).alloc (.cells #[.int .i64 0, .slice none 0 0, .slice none 0 0, .slice none 0 0] 115)) := ⟨_, rfl⟩
  have hs1 : W1.heap.size = w.heap.size + 2 := by rw [hW1, World.size_alloc, World.size_alloc]
  have hx0 : W1.heap[w.heap.size]? = some (.cells #[.slice (some T) 1 cT, .slice none 0 0, .slice U 0 cU, .slice (some ⟨g, 0, none⟩) 2 2, .func (.func fa) #[] #[]] 153 (0, 0)) := by
    rw [hW1]
    exact (Below.heap_alloc _ _ _ (by rw [World.size_alloc]; omega)).trans (heap_alloc_new w _)
  have hx2 : W1.heap[w.heap.size + 1]? = some (.cells #[.int .i64 0, .slice none 0 0, .slice none 0 0, .slice none 0 0] 115 (0, 0)) := by
    have h9 := heap_alloc_new (w.alloc (.cells #[.slice (some T) 1 cT, .slice none 0 0, .slice U 0 cU, .slice (some ⟨g, 0, none⟩) 2 2, .func (.func fa) #[] #[]] 153)) (.cells #[.int .i64 0, .slice none 0 0, .slice none 0 0, .slice none 0 0] 115)
    rw [World.size_alloc] at h9
    rw [hW1]
    exact h9
  have hB1 : Below w.heap.size w W1 := by
    rw [hW1]
    exact ((Below.refl _ w).alloc (Nat.le_refl _) _).alloc (by rw [World.size_alloc]; omega) _
  have HW1 := Lib.hid hW1
  have hs1a : w.heap.size + 2 ≤ W1.heap.size := Nat.le_of_eq hs1.symm
  have hs1b : W1.heap.size ≤ w.heap.size + 2 := Nat.le_of_eq hs1
  have hg := (Array.getElem?_eq_some_iff.1 hL).1
  have x3 := Lib.cell_of_heap hx0 3
  simp only [List.getElem?_toArray, List.getElem?_cons_zero, List.getElem?_cons_succ] at x3
  have b2 := (Below.refl _ W1).alloc (Nat.le_refl _) (.cells #[.int .i64 3, .slice none 0 0, .slice none 0 0, .slice none 0 0] 115)
  have f2 := heap_alloc_new W1 (.cells #[.int .i64 3, .slice none 0 0, .slice none 0 0, .slice none 0 0] 115)
  have s2 := World.size_alloc W1 (.cells #[.int .i64 3, .slice none 0 0, .slice none 0 0, .slice none 0 0] 115)
  go_enter Tryz.func79, Tryz.ntmps79
  go_upto_region 1 with fail
  rw [← HW1.out]
  have x0 := five_of hx0
  obtain ⟨x0, x1, x2, x3', x4⟩ := x0
  have HB1 := Lib.hid hB1
  have HL1 := Lib.hid (hL.on hB1)
  clear x3' hW1 hB1 hs1
  go_upto_region 2 with fail
  generalize W1.alloc (.cells #[.int .i64 3, .slice none 0 0, .slice none 0 0, .slice none 0 0] 115) = W3 at *
  have HF2 := Lib.hid f2
  have HX0 := Lib.hid hx0
  have HX2 := Lib.hid hx2
  have HB2 := Lib.hid b2
  have HT := Lib.hid hT
  have hs3a : W3.heap.size ≤ W1.heap.size + 1 := Nat.le_of_eq s2
  have hs3b : W1.heap.size + 1 ≤ W3.heap.size := Nat.le_of_eq s2.symm
  have x30 := (b2.cell (p := ⟨w.heap.size, 3, none⟩) (by show w.heap.size < _; omega)).trans x3
  have hTl : T.block < w.heap.size := World.block_lt_of_cell? w T hT
  clear hx0 hx2 b2 f2 s2 x0 x1 x2 x3 x4 hT
  go_wp2
  go_loopw [14] (fun iv wr => ∃ (i cL : Nat) (L : Option Addr), iv = .int .i64 i ∧ i ≤ 2 ∧ HgAt wr W1.heap.size L i cL ∧
      OwnC wr W3.heap.size 113 2 L i cL ((labsA.take i).flatMap sdC) ∧ Hid (∀ q, q < W3.heap.size → q ≠ W1.heap.size → wr.heap[q]? = W3.heap[q]?) ∧ W3.heap.size ≤ wr.heap.size ∧ Below W1.heap.size W1 wr) (fun iv _ => 2 - (intOf iv).toNat)
  case atStart => exact ⟨0, 0, none, rfl, Nat.zero_le _, HF2.out, OwnC.nil _ _ _ _, fun _ _ _ => rfl, Nat.le_refl _, HB2.out⟩
  case round =>
    obtain ⟨i, cL, L, rfl, hi, hgc, hOL, hfar, hsz, hbr⟩ := hrel
    obtain ⟨wo, rfl⟩ : ∃ wo : World, wo = wr := ⟨_, rfl⟩
    have z1 := Lib.cell_of_heap hgc 1
    have f1 := Lib.frozen_of_heap hgc 1
    simp only [List.getElem?_toArray, List.getElem?_cons_zero, List.getElem?_cons_succ] at z1
    have hm := (hbr.block w.heap.size (by omega)).trans HX0.out
    have HM := Lib.hid hm
    obtain ⟨y0, y1, y2, y3, y4⟩ := five_of hm
    have HGC := Lib.hid hgc
    have HFR := Lib.hid hfar
    have HBR := Lib.hid hbr
    by_cases hlt : i < 2
    · have hiI : (i : Int) < 2 := by omega
      have hi0 : (0 : Int) ≤ (i : Int) := by omega
      have HC := Lib.hid (labelled_any (w := wo.drew) (T := T) (U := U) (cT := cT) (cU := cU) (fa := fa) (lab := (i : Int)) (HL1.out.on hbr.drew) (by omega))
      obtain ⟨xs, o1, o2⟩ := hOL
      have HO1 := Lib.hid o1
      have HO2 := Lib.hid o2
      have hneg : some W1.heap.size ≠ (Value.slice L i cL).ownBlock := fun e => by have := (o1.lt W1.heap.size e.symm).1; omega
      have hnew : some w.heap.size ≠ (Value.slice L i cL).ownBlock := fun e => by have := (o1.lt w.heap.size e.symm).1; omega
      have hNl : ∀ q, (Value.slice L i cL).ownBlock = some q → W3.heap.size ≤ q ∧ q < wo.heap.size := fun q hq => o1.lt q hq
      have HNL := Lib.hid hNl
      have hl1 : W1.heap.size < wo.heap.size := by omega
      have hl0 : w.heap.size < wo.heap.size := by omega
      have hne : w.heap.size ≠ W1.heap.size := by omega
      clear hm hgc hfar hbr hNl o1 o2
      go_upto_region 5 with fail
      refine wp_region_noPanic ?_
      refine wp_region_held_drew (S := (fun w' => w'.cell? ⟨w.heap.size, 0, none⟩ = some (.slice (some T) 1 cT) ∧ w'.cell? ⟨w.heap.size, 1, none⟩ = some (.slice none 0 0) ∧ w'.cell? ⟨w.heap.size, 2, none⟩ = some (.slice U 0 cU) ∧ w'.cell? ⟨w.heap.size, 3, none⟩ = some (.slice (some ⟨g, 0, none⟩) 2 2) ∧ w'.cell? ⟨w.heap.size, 4, none⟩ = some (.func (.func fa) #[] #[]))) (by kernel_rfl) ?_ (fun hHeld => ?_)
      · (try dsimp only)
        first | exact ⟨y0, y1, y2, y3, y4⟩ | exact five_of q5 | exact five_of ((Below.heap_alloc W5 _ w.heap.size hs5).trans q5) | exact five_of g7 | exact five_of ((heap_set_other (p := ⟨W1.heap.size, 1, none⟩) hne).trans g7)
      refine wpAnyH_take (i := 0) (v := ?_) rfl (by kernel_rfl) (by kernel_rfl) (by kernel_rfl) (fun _ _ _ h => h) (Or.inl ⟨by rfl, ?_⟩) (by assumption) ?_
      rotate_left
      · (intro w hSw; (try dsimp only at hSw); go_simp; try with_reducible rfl)
      try simp only [Act.put, List.setIfInBounds_toArray]
      refine wpAnyH_take (i := 2) (v := ?_) rfl (by kernel_rfl) (by kernel_rfl) (by kernel_rfl) (fun _ _ _ h => h) (Or.inl ⟨by rfl, ?_⟩) (by assumption) ?_
      rotate_left
      · (intro w hSw; (try dsimp only at hSw); go_simp; try with_reducible rfl)
      try simp only [Act.put]
      refine wpAnyH_take (i := 3) (v := ?_) rfl (by kernel_rfl) (by kernel_rfl) (by kernel_rfl) (fun _ _ _ h => h) (Or.inl ⟨by rfl, ?_⟩) (by assumption) ?_
      rotate_left
      · (intro w hSw; (try dsimp only at hSw); go_simp; try with_reducible rfl)
      try simp only [Act.put]
      refine wpAnyH_ready (rs := [1, 4]) (by kernel_rfl) (by simp) ?_
      refine AllReadyH.cons rfl (fun K hK => ?_) ?_
      · go_simp
        refine hK.out _ _ ?_ (fun hNew => ?_)
        · (try dsimp only)
          first | exact ⟨y0, y1, y2, y3, y4⟩ | exact five_of q5 | exact five_of ((Below.heap_alloc W5 _ w.heap.size hs5).trans q5) | exact five_of g7 | exact five_of ((heap_set_other (p := ⟨W1.heap.size, 1, none⟩) hne).trans g7)
        clear hK K
        try simp only [Act.put, List.setIfInBounds_toArray, List.set_cons_zero, List.set_cons_succ]
        clear hHeld
        have hHeld := hNew
        clear hNew
        refine wpAnyH_ready (rs := [4]) (by kernel_rfl) (by simp) ?_
        refine AllReadyH.cons rfl (fun K hK => ?_) ?_
        · go_simp
          (go_at_call 113; refine HC.out.mono ?_; rintro e W5 ⟨N5, c5, O5, d5, rfl, g5, b5⟩; have hs5 : w.heap.size < W5.heap.size := Nat.lt_of_lt_of_le hl0 b5.size; have hn5 : W1.heap.size < W5.heap.size := Nat.lt_of_lt_of_le hl1 b5.size; have hbw5 : Below wo.heap.size wo W5 := (Below.drew (Below.refl _ wo)).trans b5; have q5 := (hbw5.block w.heap.size hl0).trans HM.out; have v1 := (hbw5.cell (p := ⟨W1.heap.size, 1, none⟩) hl1).trans z1; have vf := (hbw5.frozen (p := ⟨W1.heap.size, 1, none⟩) hl1).trans f1; have va := (World.cell?_of_block (a := ⟨W1.heap.size, 1, none⟩) (Below.heap_alloc W5 (.cells #[.slice N5 2 c5, .slice O5 2 d5] 113) W1.heap.size hn5)).trans v1; have o5 := own_below HO1.out hbw5 (Nat.le_refl _); have hbs5 : W3.heap.size ≤ W5.heap.size := by omega)
          try go_wp2_with fail
          refine hK.out _ _ ?_ (fun hNew => ?_)
          · (try dsimp only)
            first | exact ⟨y0, y1, y2, y3, y4⟩ | exact five_of q5 | exact five_of ((Below.heap_alloc W5 _ w.heap.size hs5).trans q5) | exact five_of g7 | exact five_of ((heap_set_other (p := ⟨W1.heap.size, 1, none⟩) hne).trans g7)
          clear hK K
          try simp only [Act.put, List.setIfInBounds_toArray, List.set_cons_zero, List.set_cons_succ]
          clear hHeld
          have hHeld := hNew
          clear hNew
          refine wpAnyH_ready (rs := [5]) (by kernel_rfl) (by simp) ?_
          refine AllReadyH.cons rfl (fun K hK => ?_) ?_
          · go_simp
            refine hK.out _ _ ?_ (fun hNew => ?_)
            · (try dsimp only)
              first | exact ⟨y0, y1, y2, y3, y4⟩ | exact five_of q5 | exact five_of ((Below.heap_alloc W5 _ w.heap.size hs5).trans q5) | exact five_of g7 | exact five_of ((heap_set_other (p := ⟨W1.heap.size, 1, none⟩) hne).trans g7)
            clear hK K
            try simp only [Act.put, List.setIfInBounds_toArray, List.set_cons_zero, List.set_cons_succ]
            clear hHeld
            have hHeld := hNew
            clear hNew
            refine wpAnyH_ready (rs := [6]) (by kernel_rfl) (by simp) ?_
            refine AllReadyH.cons rfl (fun K hK => ?_) ?_
            · (refine step_push (by rfl) _ _ _ (by rfl) W3.heap.size rowSd L i cL _ (by rfl) (o5.alloc _) W5.heap.size 1 _ (by rfl) (heap_alloc_new W5 _) (by rfl) (by simp [Value.oneCell']) (by unfold maxLen; omega) (by omega) (by simp; omega) ?_; intro N7 cN7 W7 hc7 ho7 hg7 hat7; have g70 := (grown_cell hg7 (a := ⟨W1.heap.size, 1, none⟩) (by simp; omega) hneg).1.trans va; have g71 := (grown_cell hg7 (a := ⟨W1.heap.size, 1, none⟩) (by simp; omega) hneg).2.trans ((World.frozen?_of_block (a := ⟨W1.heap.size, 1, none⟩) (Below.heap_alloc W5 (.cells #[.slice N5 2 c5, .slice O5 2 d5] 113) W1.heap.size hn5)).trans vf); have g7 := (hg7.block w.heap.size (by simp; omega) hnew).trans ((Below.heap_alloc W5 (.cells #[.slice N5 2 c5, .slice O5 2 d5] 113) w.heap.size hs5).trans q5))
              refine hK.out _ _ ?_ (fun hNew => ?_)
              · (try dsimp only)
                first | exact ⟨y0, y1, y2, y3, y4⟩ | exact five_of q5 | exact five_of ((Below.heap_alloc W5 _ w.heap.size hs5).trans q5) | exact five_of g7 | exact five_of ((heap_set_other (p := ⟨W1.heap.size, 1, none⟩) hne).trans g7)
              clear hK K
              try simp only [Act.put, List.setIfInBounds_toArray]
              clear hHeld
              have hHeld := hNew
              clear hNew
              refine wpAnyH_take (i := 7) (v := ?_) rfl (by kernel_rfl) (by kernel_rfl) (by kernel_rfl) (fun _ _ _ h => h) (Or.inl ⟨by rfl, ?_⟩) (by assumption) ?_
              rotate_left
              · (intro w hSw; (try dsimp only at hSw); go_simp; try with_reducible rfl)
              try simp only [Act.put]
              refine wpAnyH_ready (rs := [8]) (by kernel_rfl) (by simp) ?_
              refine AllReadyH.cons rfl (fun K hK => ?_) ?_
              · go_simp
                refine hK.out _ _ ?_ (fun hNew => ?_)
                · (try dsimp only)
                  first | exact ⟨y0, y1, y2, y3, y4⟩ | exact five_of q5 | exact five_of ((Below.heap_alloc W5 _ w.heap.size hs5).trans q5) | exact five_of g7 | exact five_of ((heap_set_other (p := ⟨W1.heap.size, 1, none⟩) hne).trans g7)
                clear hK K
                try simp only [Act.put, List.setIfInBounds_toArray, List.set_cons_zero, List.set_cons_succ]
                clear hHeld
                have hHeld := hNew
                clear hNew
                refine wpAnyH_done (by kernel_rfl) ?_ _
                refine NoPanic.normal ?_
                have hba := (Below.refl _ W5).alloc (Nat.le_refl _) (.cells #[.slice N5 2 c5, .slice O5 2 d5] 113)
                have hgc7 := (hg7.block W1.heap.size (by simp; omega) hneg).trans ((hba.block W1.heap.size hn5).trans ((hbw5.block W1.heap.size hl1).trans HGC.out))
                have hgc8 := heap_setCell_same W7 W1.heap.size 1 _ _ (.slice N7 (i + 1) cN7) hgc7
                rw [show (#[Value.int .i64 3, .slice L i cL, .slice none 0 0, .slice none 0 0].setIfInBounds 1 (.slice N7 (i + 1) cN7)) = #[.int .i64 3, .slice N7 (i + 1) cN7, .slice none 0 0, .slice none 0 0] from rfl] at hgc8
                have hap : ∀ q, wo.heap.size ≤ q ∧ q < W5.heap.size → Apart W3.heap.size (W5.alloc (.cells #[.slice N5 2 c5, .slice O5 2 d5] 113)) (.slice L i cL) q := fun q hq => ⟨by omega, Nat.lt_of_lt_of_le hq.2 hba.size, fun e => by have := (HNL.out q e).2; omega⟩
                have h7 := OwnC.push (apart_below (apart_below HO2.out hbw5) hba) ho7 hg7 hat7 (show CsIsP _ _ (sdC (sdA i)) [.slice N5 2 c5, .slice O5 2 d5] from
                  CsIsP.cons (CIsP.sl ((SlP.keep g5.nx fun p hp => hba.cell hp.2).more hap) g5.le1) (CsIsP.cons (CIsP.sl ((SlP.keep g5.out fun p hp => hba.cell hp.2).more hap) g5.le2) (CsIsP.nil _ _)))
                have h8 : OwnC (W7.setCell ⟨W1.heap.size, 1, none⟩ (.slice N7 (i + 1) cN7)) W3.heap.size 113 2 N7 (i + 1) cN7 ((labsA.take (i + 1)).flatMap sdC) := by
                  have h9 := h7.far (w' := W7.setCell ⟨W1.heap.size, 1, none⟩ (.slice N7 (i + 1) cN7)) (by rw [size_set]; exact Nat.le_refl _) fun q hq _ => heap_set_other (p := ⟨W1.heap.size, 1, none⟩) (by show q ≠ W1.heap.size; omega)
                  rw [labsA_next hlt, List.flatMap_append, List.flatMap_cons, List.flatMap_nil, List.append_nil]
                  exact h9
                have hb8 : Below W1.heap.size W1 (W7.setCell ⟨W1.heap.size, 1, none⟩ (.slice N7 (i + 1) cN7)) := (((HBR.out.trans (hbw5.mono HBR.out.size)).alloc (by omega) _).grown hg7 (by simp; omega) (fun q hq => by have := (HNL.out q hq).1; omega)).setCell (p := ⟨W1.heap.size, 1, none⟩) (Nat.le_refl _) _
                have hf8 : ∀ q, q < W3.heap.size → q ≠ W1.heap.size → (W7.setCell ⟨W1.heap.size, 1, none⟩ (.slice N7 (i + 1) cN7)).heap[q]? = W3.heap[q]? := fun q hq hq2 => (heap_set_other (p := ⟨W1.heap.size, 1, none⟩) hq2).trans ((hg7.block q (by simp; omega) (fun e => by have := (HNL.out q e.symm).1; omega)).trans ((hba.block q (by omega)).trans ((hbw5.block q (by omega)).trans (HFR.out q hq hq2))))
                have hs8 : W3.heap.size ≤ (W7.setCell ⟨W1.heap.size, 1, none⟩ (.slice N7 (i + 1) cN7)).heap.size := by
                  rw [size_set]
                  have h9 := hg7.size
                  simp at h9
                  omega
                have HB8 := Lib.hid hb8
                have HO8 := Lib.hid h8
                have HC8 := Lib.hid hgc8
                have HF8 := Lib.hid hf8
                clear hba hgc7 hgc8 hap h7 h8 hb8 hf8
                generalize W7.setCell ⟨W1.heap.size, 1, none⟩ (.slice N7 (i + 1) cN7) = W8 at *
                go_wp2
                go_roundw
                case rel => exact ⟨i + 1, cN7, N7, by go_num, by omega, HC8.out, HO8.out, HF8.out, hs8, HB8.out⟩
                case measure => simp [intOf]; omega
              exact AllReadyH.nil
            exact AllReadyH.nil
          exact AllReadyH.nil
        exact AllReadyH.nil
      refine AllReadyH.cons rfl (fun K hK => ?_) ?_
      · go_simp
        (go_at_call 113; refine HC.out.mono ?_; rintro e W5 ⟨N5, c5, O5, d5, rfl, g5, b5⟩; have hs5 : w.heap.size < W5.heap.size := Nat.lt_of_lt_of_le hl0 b5.size; have hn5 : W1.heap.size < W5.heap.size := Nat.lt_of_lt_of_le hl1 b5.size; have hbw5 : Below wo.heap.size wo W5 := (Below.drew (Below.refl _ wo)).trans b5; have q5 := (hbw5.block w.heap.size hl0).trans HM.out; have v1 := (hbw5.cell (p := ⟨W1.heap.size, 1, none⟩) hl1).trans z1; have vf := (hbw5.frozen (p := ⟨W1.heap.size, 1, none⟩) hl1).trans f1; have va := (World.cell?_of_block (a := ⟨W1.heap.size, 1, none⟩) (Below.heap_alloc W5 (.cells #[.slice N5 2 c5, .slice O5 2 d5] 113) W1.heap.size hn5)).trans v1; have o5 := own_below HO1.out hbw5 (Nat.le_refl _); have hbs5 : W3.heap.size ≤ W5.heap.size := by omega)
        try go_wp2_with fail
        refine hK.out _ _ ?_ (fun hNew => ?_)
        · (try dsimp only)
          first | exact ⟨y0, y1, y2, y3, y4⟩ | exact five_of q5 | exact five_of ((Below.heap_alloc W5 _ w.heap.size hs5).trans q5) | exact five_of g7 | exact five_of ((heap_set_other (p := ⟨W1.heap.size, 1, none⟩) hne).trans g7)
        clear hK K
        try simp only [Act.put, List.setIfInBounds_toArray, List.set_cons_zero, List.set_cons_succ]
        clear hHeld
        have hHeld := hNew
        clear hNew
        refine wpAnyH_ready (rs := [1, 5]) (by kernel_rfl) (by simp) ?_
        refine AllReadyH.cons rfl (fun K hK => ?_) ?_
        · go_simp
          refine hK.out _ _ ?_ (fun hNew => ?_)
          · (try dsimp only)
            first | exact ⟨y0, y1, y2, y3, y4⟩ | exact five_of q5 | exact five_of ((Below.heap_alloc W5 _ w.heap.size hs5).trans q5) | exact five_of g7 | exact five_of ((heap_set_other (p := ⟨W1.heap.size, 1, none⟩) hne).trans g7)
          clear hK K
          try simp only [Act.put, List.setIfInBounds_toArray, List.set_cons_zero, List.set_cons_succ]
          clear hHeld
          have hHeld := hNew
          clear hNew
          refine wpAnyH_ready (rs := [5]) (by kernel_rfl) (by simp) ?_
          refine AllReadyH.cons rfl (fun K hK => ?_) ?_
          · go_simp
            refine hK.out _ _ ?_ (fun hNew => ?_)
            · (try dsimp only)
              first | exact ⟨y0, y1, y2, y3, y4⟩ | exact five_of q5 | exact five_of ((Below.heap_alloc W5 _ w.heap.size hs5).trans q5) | exact five_of g7 | exact five_of ((heap_set_other (p := ⟨W1.heap.size, 1, none⟩) hne).trans g7)
            clear hK K
            try simp only [Act.put, List.setIfInBounds_toArray, List.set_cons_zero, List.set_cons_succ]
            clear hHeld
            have hHeld := hNew
            clear hNew
            refine wpAnyH_ready (rs := [6]) (by kernel_rfl) (by simp) ?_
            refine AllReadyH.cons rfl (fun K hK => ?_) ?_
            · (refine step_push (by rfl) _ _ _ (by rfl) W3.heap.size rowSd L i cL _ (by rfl) (o5.alloc _) W5.heap.size 1 _ (by rfl) (heap_alloc_new W5 _) (by rfl) (by simp [Value.oneCell']) (by unfold maxLen; omega) (by omega) (by simp; omega) ?_; intro N7 cN7 W7 hc7 ho7 hg7 hat7; have g70 := (grown_cell hg7 (a := ⟨W1.heap.size, 1, none⟩) (by simp; omega) hneg).1.trans va; have g71 := (grown_cell hg7 (a := ⟨W1.heap.size, 1, none⟩) (by simp; omega) hneg).2.trans ((World.frozen?_of_block (a := ⟨W1.heap.size, 1, none⟩) (Below.heap_alloc W5 (.cells #[.slice N5 2 c5, .slice O5 2 d5] 113) W1.heap.size hn5)).trans vf); have g7 := (hg7.block w.heap.size (by simp; omega) hnew).trans ((Below.heap_alloc W5 (.cells #[.slice N5 2 c5, .slice O5 2 d5] 113) w.heap.size hs5).trans q5))
              refine hK.out _ _ ?_ (fun hNew => ?_)
              · (try dsimp only)
                first | exact ⟨y0, y1, y2, y3, y4⟩ | exact five_of q5 | exact five_of ((Below.heap_alloc W5 _ w.heap.size hs5).trans q5) | exact five_of g7 | exact five_of ((heap_set_other (p := ⟨W1.heap.size, 1, none⟩) hne).trans g7)
              clear hK K
              try simp only [Act.put, List.setIfInBounds_toArray]
              clear hHeld
              have hHeld := hNew
              clear hNew
              refine wpAnyH_take (i := 7) (v := ?_) rfl (by kernel_rfl) (by kernel_rfl) (by kernel_rfl) (fun _ _ _ h => h) (Or.inl ⟨by rfl, ?_⟩) (by assumption) ?_
              rotate_left
              · (intro w hSw; (try dsimp only at hSw); go_simp; try with_reducible rfl)
              try simp only [Act.put]
              refine wpAnyH_ready (rs := [8]) (by kernel_rfl) (by simp) ?_
              refine AllReadyH.cons rfl (fun K hK => ?_) ?_
              · go_simp
                refine hK.out _ _ ?_ (fun hNew => ?_)
                · (try dsimp only)
                  first | exact ⟨y0, y1, y2, y3, y4⟩ | exact five_of q5 | exact five_of ((Below.heap_alloc W5 _ w.heap.size hs5).trans q5) | exact five_of g7 | exact five_of ((heap_set_other (p := ⟨W1.heap.size, 1, none⟩) hne).trans g7)
                clear hK K
                try simp only [Act.put, List.setIfInBounds_toArray, List.set_cons_zero, List.set_cons_succ]
                clear hHeld
                have hHeld := hNew
                clear hNew
                refine wpAnyH_done (by kernel_rfl) ?_ _
                refine NoPanic.normal ?_
                have hba := (Below.refl _ W5).alloc (Nat.le_refl _) (.cells #[.slice N5 2 c5, .slice O5 2 d5] 113)
                have hgc7 := (hg7.block W1.heap.size (by simp; omega) hneg).trans ((hba.block W1.heap.size hn5).trans ((hbw5.block W1.heap.size hl1).trans HGC.out))
                have hgc8 := heap_setCell_same W7 W1.heap.size 1 _ _ (.slice N7 (i + 1) cN7) hgc7
                rw [show (#[Value.int .i64 3, .slice L i cL, .slice none 0 0, .slice none 0 0].setIfInBounds 1 (.slice N7 (i + 1) cN7)) = #[.int .i64 3, .slice N7 (i + 1) cN7, .slice none 0 0, .slice none 0 0] from rfl] at hgc8
                have hap : ∀ q, wo.heap.size ≤ q ∧ q < W5.heap.size → Apart W3.heap.size (W5.alloc (.cells #[.slice N5 2 c5, .slice O5 2 d5] 113)) (.slice L i cL) q := fun q hq => ⟨by omega, Nat.lt_of_lt_of_le hq.2 hba.size, fun e => by have := (HNL.out q e).2; omega⟩
                have h7 := OwnC.push (apart_below (apart_below HO2.out hbw5) hba) ho7 hg7 hat7 (show CsIsP _ _ (sdC (sdA i)) [.slice N5 2 c5, .slice O5 2 d5] from
                  CsIsP.cons (CIsP.sl ((SlP.keep g5.nx fun p hp => hba.cell hp.2).more hap) g5.le1) (CsIsP.cons (CIsP.sl ((SlP.keep g5.out fun p hp => hba.cell hp.2).more hap) g5.le2) (CsIsP.nil _ _)))
                have h8 : OwnC (W7.setCell ⟨W1.heap.size, 1, none⟩ (.slice N7 (i + 1) cN7)) W3.heap.size 113 2 N7 (i + 1) cN7 ((labsA.take (i + 1)).flatMap sdC) := by
                  have h9 := h7.far (w' := W7.setCell ⟨W1.heap.size, 1, none⟩ (.slice N7 (i + 1) cN7)) (by rw [size_set]; exact Nat.le_refl _) fun q hq _ => heap_set_other (p := ⟨W1.heap.size, 1, none⟩) (by show q ≠ W1.heap.size; omega)
                  rw [labsA_next hlt, List.flatMap_append, List.flatMap_cons, List.flatMap_nil, List.append_nil]
                  exact h9
                have hb8 : Below W1.heap.size W1 (W7.setCell ⟨W1.heap.size, 1, none⟩ (.slice N7 (i + 1) cN7)) := (((HBR.out.trans (hbw5.mono HBR.out.size)).alloc (by omega) _).grown hg7 (by simp; omega) (fun q hq => by have := (HNL.out q hq).1; omega)).setCell (p := ⟨W1.heap.size, 1, none⟩) (Nat.le_refl _) _
                have hf8 : ∀ q, q < W3.heap.size → q ≠ W1.heap.size → (W7.setCell ⟨W1.heap.size, 1, none⟩ (.slice N7 (i + 1) cN7)).heap[q]? = W3.heap[q]? := fun q hq hq2 => (heap_set_other (p := ⟨W1.heap.size, 1, none⟩) hq2).trans ((hg7.block q (by simp; omega) (fun e => by have := (HNL.out q e.symm).1; omega)).trans ((hba.block q (by omega)).trans ((hbw5.block q (by omega)).trans (HFR.out q hq hq2))))
                have hs8 : W3.heap.size ≤ (W7.setCell ⟨W1.heap.size, 1, none⟩ (.slice N7 (i + 1) cN7)).heap.size := by
                  rw [size_set]
                  have h9 := hg7.size
                  simp at h9
                  omega
                have HB8 := Lib.hid hb8
                have HO8 := Lib.hid h8
                have HC8 := Lib.hid hgc8
                have HF8 := Lib.hid hf8
                clear hba hgc7 hgc8 hap h7 h8 hb8 hf8
                generalize W7.setCell ⟨W1.heap.size, 1, none⟩ (.slice N7 (i + 1) cN7) = W8 at *
                go_wp2
                go_roundw
                case rel => exact ⟨i + 1, cN7, N7, by go_num, by omega, HC8.out, HO8.out, HF8.out, hs8, HB8.out⟩
                case measure => simp [intOf]; omega
              exact AllReadyH.nil
            exact AllReadyH.nil
          exact AllReadyH.nil
        refine AllReadyH.cons rfl (fun K hK => ?_) ?_
        · go_simp
          refine hK.out _ _ ?_ (fun hNew => ?_)
          · (try dsimp only)
            first | exact ⟨y0, y1, y2, y3, y4⟩ | exact five_of q5 | exact five_of ((Below.heap_alloc W5 _ w.heap.size hs5).trans q5) | exact five_of g7 | exact five_of ((heap_set_other (p := ⟨W1.heap.size, 1, none⟩) hne).trans g7)
          clear hK K
          try simp only [Act.put, List.setIfInBounds_toArray, List.set_cons_zero, List.set_cons_succ]
          clear hHeld
          have hHeld := hNew
          clear hNew
          refine wpAnyH_ready (rs := [1]) (by kernel_rfl) (by simp) ?_
          refine AllReadyH.cons rfl (fun K hK => ?_) ?_
          · go_simp
            refine hK.out _ _ ?_ (fun hNew => ?_)
            · (try dsimp only)
              first | exact ⟨y0, y1, y2, y3, y4⟩ | exact five_of q5 | exact five_of ((Below.heap_alloc W5 _ w.heap.size hs5).trans q5) | exact five_of g7 | exact five_of ((heap_set_other (p := ⟨W1.heap.size, 1, none⟩) hne).trans g7)
            clear hK K
            try simp only [Act.put, List.setIfInBounds_toArray, List.set_cons_zero, List.set_cons_succ]
            clear hHeld
            have hHeld := hNew
            clear hNew
            refine wpAnyH_ready (rs := [6]) (by kernel_rfl) (by simp) ?_
            refine AllReadyH.cons rfl (fun K hK => ?_) ?_
            · (refine step_push (by rfl) _ _ _ (by rfl) W3.heap.size rowSd L i cL _ (by rfl) (o5.alloc _) W5.heap.size 1 _ (by rfl) (heap_alloc_new W5 _) (by rfl) (by simp [Value.oneCell']) (by unfold maxLen; omega) (by omega) (by simp; omega) ?_; intro N7 cN7 W7 hc7 ho7 hg7 hat7; have g70 := (grown_cell hg7 (a := ⟨W1.heap.size, 1, none⟩) (by simp; omega) hneg).1.trans va; have g71 := (grown_cell hg7 (a := ⟨W1.heap.size, 1, none⟩) (by simp; omega) hneg).2.trans ((World.frozen?_of_block (a := ⟨W1.heap.size, 1, none⟩) (Below.heap_alloc W5 (.cells #[.slice N5 2 c5, .slice O5 2 d5] 113) W1.heap.size hn5)).trans vf); have g7 := (hg7.block w.heap.size (by simp; omega) hnew).trans ((Below.heap_alloc W5 (.cells #[.slice N5 2 c5, .slice O5 2 d5] 113) w.heap.size hs5).trans q5))
              refine hK.out _ _ ?_ (fun hNew => ?_)
              · (try dsimp only)
                first | exact ⟨y0, y1, y2, y3, y4⟩ | exact five_of q5 | exact five_of ((Below.heap_alloc W5 _ w.heap.size hs5).trans q5) | exact five_of g7 | exact five_of ((heap_set_other (p := ⟨W1.heap.size, 1, none⟩) hne).trans g7)
              clear hK K
              try simp only [Act.put, List.setIfInBounds_toArray]
              clear hHeld
              have hHeld := hNew
              clear hNew
              refine wpAnyH_take (i := 7) (v := ?_) rfl (by kernel_rfl) (by kernel_rfl) (by kernel_rfl) (fun _ _ _ h => h) (Or.inl ⟨by rfl, ?_⟩) (by assumption) ?_
              rotate_left
              · (intro w hSw; (try dsimp only at hSw); go_simp; try with_reducible rfl)
              try simp only [Act.put]
              refine wpAnyH_ready (rs := [8]) (by kernel_rfl) (by simp) ?_
              refine AllReadyH.cons rfl (fun K hK => ?_) ?_
              · go_simp
                refine hK.out _ _ ?_ (fun hNew => ?_)
                · (try dsimp only)
                  first | exact ⟨y0, y1, y2, y3, y4⟩ | exact five_of q5 | exact five_of ((Below.heap_alloc W5 _ w.heap.size hs5).trans q5) | exact five_of g7 | exact five_of ((heap_set_other (p := ⟨W1.heap.size, 1, none⟩) hne).trans g7)
                clear hK K
                try simp only [Act.put, List.setIfInBounds_toArray, List.set_cons_zero, List.set_cons_succ]
                clear hHeld
                have hHeld := hNew
                clear hNew
                refine wpAnyH_done (by kernel_rfl) ?_ _
                refine NoPanic.normal ?_
                have hba := (Below.refl _ W5).alloc (Nat.le_refl _) (.cells #[.slice N5 2 c5, .slice O5 2 d5] 113)
                have hgc7 := (hg7.block W1.heap.size (by simp; omega) hneg).trans ((hba.block W1.heap.size hn5).trans ((hbw5.block W1.heap.size hl1).trans HGC.out))
                have hgc8 := heap_setCell_same W7 W1.heap.size 1 _ _ (.slice N7 (i + 1) cN7) hgc7
                rw [show (#[Value.int .i64 3, .slice L i cL, .slice none 0 0, .slice none 0 0].setIfInBounds 1 (.slice N7 (i + 1) cN7)) = #[.int .i64 3, .slice N7 (i + 1) cN7, .slice none 0 0, .slice none 0 0] from rfl] at hgc8
                have hap : ∀ q, wo.heap.size ≤ q ∧ q < W5.heap.size → Apart W3.heap.size (W5.alloc (.cells #[.slice N5 2 c5, .slice O5 2 d5] 113)) (.slice L i cL) q := fun q hq => ⟨by omega, Nat.lt_of_lt_of_le hq.2 hba.size, fun e => by have := (HNL.out q e).2; omega⟩
                have h7 := OwnC.push (apart_below (apart_below HO2.out hbw5) hba) ho7 hg7 hat7 (show CsIsP _ _ (sdC (sdA i)) [.slice N5 2 c5, .slice O5 2 d5] from
                  CsIsP.cons (CIsP.sl ((SlP.keep g5.nx fun p hp => hba.cell hp.2).more hap) g5.le1) (CsIsP.cons (CIsP.sl ((SlP.keep g5.out fun p hp => hba.cell hp.2).more hap) g5.le2) (CsIsP.nil _ _)))
                have h8 : OwnC (W7.setCell ⟨W1.heap.size, 1, none⟩ (.slice N7 (i + 1) cN7)) W3.heap.size 113 2 N7 (i + 1) cN7 ((labsA.take (i + 1)).flatMap sdC) := by
                  have h9 := h7.far (w' := W7.setCell ⟨W1.heap.size, 1, none⟩ (.slice N7 (i + 1) cN7)) (by rw [size_set]; exact Nat.le_refl _) fun q hq _ => heap_set_other (p := ⟨W1.heap.size, 1, none⟩) (by show q ≠ W1.heap.size; omega)
                  rw [labsA_next hlt, List.flatMap_append, List.flatMap_cons, List.flatMap_nil, List.append_nil]
                  exact h9
                have hb8 : Below W1.heap.size W1 (W7.setCell ⟨W1.heap.size, 1, none⟩ (.slice N7 (i + 1) cN7)) := (((HBR.out.trans (hbw5.mono HBR.out.size)).alloc (by omega) _).grown hg7 (by simp; omega) (fun q hq => by have := (HNL.out q hq).1; omega)).setCell (p := ⟨W1.heap.size, 1, none⟩) (Nat.le_refl _) _
                have hf8 : ∀ q, q < W3.heap.size → q ≠ W1.heap.size → (W7.setCell ⟨W1.heap.size, 1, none⟩ (.slice N7 (i + 1) cN7)).heap[q]? = W3.heap[q]? := fun q hq hq2 => (heap_set_other (p := ⟨W1.heap.size, 1, none⟩) hq2).trans ((hg7.block q (by simp; omega) (fun e => by have := (HNL.out q e.symm).1; omega)).trans ((hba.block q (by omega)).trans ((hbw5.block q (by omega)).trans (HFR.out q hq hq2))))
                have hs8 : W3.heap.size ≤ (W7.setCell ⟨W1.heap.size, 1, none⟩ (.slice N7 (i + 1) cN7)).heap.size := by
                  rw [size_set]
                  have h9 := hg7.size
                  simp at h9
                  omega
                have HB8 := Lib.hid hb8
                have HO8 := Lib.hid h8
                have HC8 := Lib.hid hgc8
                have HF8 := Lib.hid hf8
                clear hba hgc7 hgc8 hap h7 h8 hb8 hf8
                generalize W7.setCell ⟨W1.heap.size, 1, none⟩ (.slice N7 (i + 1) cN7) = W8 at *
                go_wp2
                go_roundw
                case rel => exact ⟨i + 1, cN7, N7, by go_num, by omega, HC8.out, HO8.out, HF8.out, hs8, HB8.out⟩
                case measure => simp [intOf]; omega
              exact AllReadyH.nil
            exact AllReadyH.nil
          exact AllReadyH.nil
        exact AllReadyH.nil
      exact AllReadyH.nil
    · obtain rfl : i = 2 := by omega
      have hT0 : wo.cell? T = some (strV wText) := ((HB1.out.trans (hbr.mono HB1.out.size)).cell hTl).trans HT.out
      have HI := Lib.hid (inside_any (w := wo) (U := U) (cT := cT) (cU := cU) (fa := fa) (HL1.out.on hbr) hT0)
      have HO := Lib.hid hOL
      have hl1 : W1.heap.size < wo.heap.size := by omega
      have hl0 : w.heap.size + 1 < wo.heap.size := by omega
      clear hm hgc hfar hbr hOL hT0 z1 f1
      go_wp2_with fail
      refine HI.out.mono ?_
      rintro e W5 ⟨gR, gS, rfl, hR, hS, b5⟩
      have HIV := Lib.hid (HBR.out.trans (b5.mono HBR.out.size))
      have b6 := (Below.refl _ W5).alloc (Nat.le_refl _) (.cells (wiCs T cT U cU g fa gR gS) 206)
      have hx6 := heap_alloc_new W5 (.cells (wiCs T cT U cU g fa gR gS) 206)
      have hs6 := World.size_alloc W5 (.cells (wiCs T cT U cU g fa gR gS) 206)
      unfold wiCs at b6 hx6 hs6
      have h5s := b5.size
      go_upto_region 8 with fail
      generalize W5.alloc _ = W6 at *
      have hM6 := (b6.block w.heap.size (by omega)).trans ((b5.block w.heap.size (by omega)).trans HM.out)
      obtain ⟨m0, m1, m2, m3, m4⟩ := five_of hM6
      obtain ⟨n0, n1, n2, n3, n4, n5, n6, n7, n8, n9⟩ := ten_of hx6
      have HM6 := Lib.hid hM6
      have HX6 := Lib.hid hx6
      have hL6 : LabsAt W6 g := (HL1.out.on HIV.out).on b6
      have hS6 := (b6.block gS (Array.getElem?_eq_some_iff.1 hS).1).trans hS
      have hgSl := (Array.getElem?_eq_some_iff.1 hS6).1
      have HD := Lib.hid (fun W => dead_any W (T := T) (U := U) (cT := cT) (cU := cU) (g := g) (fa := fa) (gR := gR) (gS := gS))
      have HSD := Lib.hid (fun (w' : World) (hw' : Below W6.heap.size W6 w') => (show Calls Tryz.prog 115 #[mkrV T cT U cU g fa, .int .i64 4, .func (.func 117) #[wiV T cT U cU g fa gR gS] #[], .func (.func 118) #[wiV T cT U cU g fa gR gS] #[]] w' (BothRet w' rootA) from mside_any (w := w') (T := T) (U := U) (cT := cT) (cU := cU) (g := g) (fa := fa) (M := 4) (rn := wiV T cT U cU g fa gR gS) (rt := wiV T cT U cU g fa gR gS) (rowF := rowA) (outF := outA) (by decide) (enters_of Tryz.func117 (by kernel_rfl) rfl) (enters_of Tryz.func118 (by kernel_rfl) rfl)
        (fun w'' hw'' st p hst hp => next_all (T := T) (U := U) (cT := cT) (cU := cU) (fa := fa) (gR := gR) ((hL6.on hw').on hw'') ((hw''.block gS (Nat.lt_of_lt_of_le hgSl hw'.size)).trans ((hw'.block gS hgSl).trans hS6)) st p hst hp) (fun w'' hw'' st hst => accepts_all (T := T) (U := U) (cT := cT) (cU := cU) (g := g) (fa := fa) (gR := gR) (gS := gS) st hst)).mono fun e w'' h => root_ret h)
      have b60 : Below wo.heap.size wo W6 := b5.trans (b6.mono b5.size)
      have hgc6 := (b60.block W1.heap.size hl1).trans HGC.out
      have HB60 := Lib.hid b60
      have HGC6 := Lib.hid hgc6
      have f2 := Lib.frozen_of_heap hgc6 2
      have f3 := Lib.frozen_of_heap hgc6 3
      have u2 := Lib.cell_of_heap hgc6 2
      have u3 := Lib.cell_of_heap hgc6 3
      simp only [List.getElem?_toArray, List.getElem?_cons_zero, List.getElem?_cons_succ] at u2 u3
      have hl16 : W1.heap.size < W6.heap.size := by omega
      have hl06 : w.heap.size < W6.heap.size := by omega
      have hl56 : W5.heap.size < W6.heap.size := by omega
      have hne1 : w.heap.size ≠ W1.heap.size := by omega
      have hne5 : W5.heap.size ≠ W1.heap.size := by omega
      clear hL6 hS6 hS hR b5 b6 b60 hgc6 hM6 hx6 hs6
      go_cut [37] (fun s37 wx => ∃ N c1 O c2, s37 = .pointer (some ⟨W1.heap.size, 2, none⟩) ∧ wx.heap[W1.heap.size]? = some (.cells #[.int .i64 3, .slice L 2 cL, .slice N 4 c1, .slice O 4 c2] 115 (0, 0)) ∧ SdV wx (fun b => wo.heap.size ≤ b ∧ b < wx.heap.size) rootA N c1 O c2 ∧ (∀ q, q < wo.heap.size → q ≠ W1.heap.size → wx.heap[q]? = wo.heap[q]?) ∧ wo.heap.size ≤ wx.heap.size ∧ Below w.heap.size w wx)
      case first =>
        go_region_held3 (fun w' => (w'.cell? ⟨w.heap.size, 0, none⟩ = some (.slice (some T) 1 cT) ∧ w'.cell? ⟨w.heap.size, 1, none⟩ = some (.slice none 0 0) ∧ w'.cell? ⟨w.heap.size, 2, none⟩ = some (.slice U 0 cU) ∧ w'.cell? ⟨w.heap.size, 3, none⟩ = some (.slice (some ⟨g, 0, none⟩) 2 2) ∧ w'.cell? ⟨w.heap.size, 4, none⟩ = some (.func (.func fa) #[] #[])) ∧
            (w'.cell? ⟨W5.heap.size, 0, none⟩ = some (.slice (some T) 1 cT) ∧ w'.cell? ⟨W5.heap.size, 1, none⟩ = some (.slice none 0 0) ∧ w'.cell? ⟨W5.heap.size, 2, none⟩ = some (.slice U 0 cU) ∧ w'.cell? ⟨W5.heap.size, 3, none⟩ = some (.slice (some ⟨g, 0, none⟩) 2 2) ∧ w'.cell? ⟨W5.heap.size, 4, none⟩ = some (.func (.func fa) #[] #[]) ∧
              w'.cell? ⟨W5.heap.size, 5, none⟩ = some (.int .i64 0) ∧ w'.cell? ⟨W5.heap.size, 6, none⟩ = some (.slice none 0 0) ∧ w'.cell? ⟨W5.heap.size, 7, none⟩ = some (.slice (some ⟨gR, 0, none⟩) 2 2) ∧ w'.cell? ⟨W5.heap.size, 8, none⟩ = some (.slice (some ⟨gS, 0, none⟩) 2 2) ∧ w'.cell? ⟨W5.heap.size, 9, none⟩ = some (.slice none 0 0)))
          (first | exact ⟨⟨m0, m1, m2, m3, m4⟩, n0, n1, n2, n3, n4, n5, n6, n7, n8, n9⟩ | exact ⟨five_of qA, ten_of rA⟩ | exact ⟨five_of qB, ten_of rB⟩ | exact ⟨five_of (((heap_set_other (p := ⟨W1.heap.size, 3, none⟩) hne1).trans (heap_set_other (p := ⟨W1.heap.size, 2, none⟩) hne1)).trans qB), ten_of (((heap_set_other (p := ⟨W1.heap.size, 3, none⟩) hne5).trans (heap_set_other (p := ⟨W1.heap.size, 2, none⟩) hne5)).trans rB)⟩)
          (first
            | (go_at_call 116; go_must (refine (HD.out _).mono ?_); rintro e WA ⟨rfl, eA⟩; have bA : Below W6.heap.size W6 WA := (Below.drew (Below.refl _ W6)).trans eA; have qA := (bA.block w.heap.size hl06).trans HM6.out; have rA := (bA.block W5.heap.size hl56).trans HX6.out; have u2A := (bA.cell (p := ⟨W1.heap.size, 2, none⟩) hl16).trans u2)
            | (go_at_call 115; refine (HSD.out _ bA).mono ?_; rintro e WB ⟨N, c1, O, c2, rfl, hV, bB⟩; have bAB : Below W6.heap.size W6 WB := bA.trans (bB.mono bA.size); have qB := (bAB.block w.heap.size hl06).trans HM6.out; have rB := (bAB.block W5.heap.size hl56).trans HX6.out; have u2B := (bAB.cell (p := ⟨W1.heap.size, 2, none⟩) hl16).trans u2; have u3B := (bAB.cell (p := ⟨W1.heap.size, 3, none⟩) hl16).trans u3; have f2B := (bAB.frozen (p := ⟨W1.heap.size, 2, none⟩) hl16).trans f2; have f3B := (bAB.frozen (p := ⟨W1.heap.size, 3, none⟩) hl16).trans f3))
        all_goals
          go_wp2_with fail
          go_meet
          have hgB := (bAB.block W1.heap.size hl16).trans HGC6.out
          have k1 := heap_setCell_same WB W1.heap.size 2 _ _ (.slice N 4 c1) hgB
          have k2 := heap_setCell_same _ W1.heap.size 3 _ _ (.slice O 4 c2) k1
          rw [show ((#[Value.int .i64 3, .slice L 2 cL, .slice none 0 0, .slice none 0 0].setIfInBounds 2 (.slice N 4 c1)).setIfInBounds 3 (.slice O 4 c2)) = #[.int .i64 3, .slice L 2 cL, .slice N 4 c1, .slice O 4 c2] from rfl] at k2
          have hot : ∀ q, q ≠ W1.heap.size → ((WB.setCell ⟨W1.heap.size, 2, none⟩ (.slice N 4 c1)).setCell ⟨W1.heap.size, 3, none⟩ (.slice O 4 c2)).heap[q]? = WB.heap[q]? := fun q hq => (heap_set_other (p := ⟨W1.heap.size, 3, none⟩) hq).trans (heap_set_other (p := ⟨W1.heap.size, 2, none⟩) hq)
          have hsz9 : ((WB.setCell ⟨W1.heap.size, 2, none⟩ (.slice N 4 c1)).setCell ⟨W1.heap.size, 3, none⟩ (.slice O 4 c2)).heap.size = WB.heap.size := by rw [size_set, size_set]
          have hwB : Below w.heap.size w WB := HB1.out.trans ((HBR.out.trans ((HB60.out.trans (bAB.mono HB60.out.size)).mono HBR.out.size)).mono HB1.out.size)
          have hw9 : Below w.heap.size w ((WB.setCell ⟨W1.heap.size, 2, none⟩ (.slice N 4 c1)).setCell ⟨W1.heap.size, 3, none⟩ (.slice O 4 c2)) := (hwB.setCell (p := ⟨W1.heap.size, 2, none⟩) HB1.out.size _).setCell (p := ⟨W1.heap.size, 3, none⟩) HB1.out.size _
          have hoB : Below wo.heap.size wo WB := HB60.out.trans (bAB.mono HB60.out.size)
          have hres := (hot (w.heap.size + 1) (by omega)).trans ((hoB.block (w.heap.size + 1) hl0).trans ((HBR.out.block (w.heap.size + 1) (by omega)).trans HX2.out))
          have hlwo := hoB.size
          have hlA := bA.size
          have hlO := HB60.out.size
          have hlA := bA.size
          have hlO := HB60.out.size
          have hlB := hoB.size
          refine ⟨N, c1, O, c2, rfl, k2, (hV.keep fun p hp => World.cell?_of_block (hot p.block (by have := hp.1; omega))).more fun b hb => ⟨by have := hb.1; omega, by rw [hsz9]; exact hb.2⟩, fun q hq hq2 => (hot q hq2).trans (hoB.block q hq), by rw [hsz9]; exact hlB, hw9⟩
      case rest =>
        obtain ⟨N, c1, O, c2, rfl, k2, hV, hot, hsz9, hw9⟩ := hcut
        rename World => W9
        have hres := (hot (w.heap.size + 1) hl0 (by omega)).trans ((HBR.out.block (w.heap.size + 1) (by omega)).trans HX2.out)
        have HK := Lib.hid k2
        have HOT := Lib.hid hot
        have HW9 := Lib.hid hw9
        have HV := Lib.hid hV
        have HRES := Lib.hid hres
        clear k2 hot hw9 hres hV m0 m1 m2 m3 m4 n0 n1 n2 n3 n4 n5 n6 n7 n8 n9 f2 f3 u2 u3 y0 y1 y2 y3 y4
        have hl9 : w.heap.size + 1 < W9.heap.size := by omega
        obtain ⟨p0, p1, p2, p3⟩ := four_of HK.out
        obtain ⟨r0, r1, r2, r3⟩ := four_of HRES.out
        have e0 := Lib.frozen_of_heap HRES.out 0
        have e1 := Lib.frozen_of_heap HRES.out 1
        have e2 := Lib.frozen_of_heap HRES.out 2
        have e3 := Lib.frozen_of_heap HRES.out 3
        have HEND : Hid (∀ Wf : World, (∀ q, q ≠ w.heap.size + 1 → Wf.heap[q]? = W9.heap[q]?) → Wf.heap.size = W9.heap.size → HdV Wf (fun b => w.heap.size ≤ b ∧ b < Wf.heap.size) ⟨3, labsA, rootA⟩ L cL N c1 O c2) := Lib.hid fun Wf hk hs => by
          refine ⟨?_, HO.out.le, ?_⟩
          · refine (SlP.keep HO.out.sl fun p hp => World.cell?_of_block ((hk p.block (by have := hp.1; omega)).trans (HOT.out p.block hp.2 (by have := hp.1; omega)))).more fun b hb => ⟨by have := hb.1; omega, by have := hb.2; omega⟩
          · refine (HV.out.keep fun p hp => World.cell?_of_block (hk p.block (by have := hp.1; omega))).more fun b hb => ⟨by have := hb.1; omega, by have := hb.2; omega⟩
        go_wp2
        refine ret_hd rfl rfl rfl (four_stored HRES.out _ _ _ _) ⟨L, cL, N, c1, O, c2, rfl, HEND.out _ (fun q hq => ?_) (by simp only [size_set]), set4 HW9.out (Nat.le_succ _) _ _ _ _⟩
        rw [heap_set_other (p := ⟨w.heap.size + 1, 3, none⟩) hq, heap_set_other (p := ⟨w.heap.size + 1, 2, none⟩) hq, heap_set_other (p := ⟨w.heap.size + 1, 1, none⟩) hq, heap_set_other (p := ⟨w.heap.size + 1, 0, none⟩) hq]
end Go.Proofs.YtnkelhmjkmeilaaGreatDoor.H
end
