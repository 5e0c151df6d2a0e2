/- The turned automaton: plain law. made: two automata. Common. -/
import Derived.Test.YtnkelhmjkmeilaaGreatDoorT24
import Derived.Test.YtnkelhmjkmeilaaGreatDoorT30
import Derived.Test.YtnkelhmjkmeilaaGreatDoorT26
import Derived.Test.YtnkelhmjkmeilaaGreatDoorT28
import Derived.Test.YtnkelhmjkmeilaaGreatDoorT27
section
namespace Go.Proofs.YtnkelhmjkmeilaaGreatDoor.H
open Go.RowKit Go.Maps Go.WideMaps
theorem flip_all (l : List Int) : flip l l.length = l.map (fun x => 1 - x) := by simp [flip]
theorem notH_ok {h : Hd} {m : Nat} (hO : HdOk h m) : HdOk (notH h) m := by
  have hl : (notH h).root.out.length = h.root.out.length := flip_len _ _
  refine ⟨hO.K1, hO.labs, ⟨by rw [hl]; exact hO.root.pos, by rw [hl]; exact hO.root.len, fun r hr => ?_, fun x hx => ?_⟩, hO.fewL, hO.fewS, by rw [hl]; exact hO.fewR, hO.fewK⟩
  · rw [hl]
    exact hO.root.rows r hr
  · have hx' : x ∈ flip h.root.out h.root.out.length := hx
    rw [flip_all] at hx'
    obtain ⟨y, hy, rfl⟩ := List.mem_map.1 hx'
    have := hO.root.outs y hy
    omega
theorem notH_side {h : Hd} {n : Nat} (hn : n < h.labs.length) : (notH h).side n = h.side n := by
  have h1 : (notH h).labs[n]? = h.labs[n]? := rfl
  rw [Hd.side, Hd.side, h1, List.getElem?_eq_getElem hn]
  rfl
theorem notH_nx (h : Hd) (n s v : Nat) : (notH h).mc.nx n s v = h.mc.nx n s v := by
  show ((notH h).side n).nxt s v = (h.side n).nxt s v
  by_cases hn : n < h.labs.length
  · rw [notH_side hn]
  · rw [Hd.side_ge (h := h) (by omega), Hd.side_ge (h := notH h) (show h.labs.length ≤ n by omega)]
    rfl
theorem notH_thr (h : Hd) : ∀ k, (∀ t : Tr, wtT t ≤ k → stT (notH h).mc t = stT h.mc t) ∧ (∀ (l : List Tr) (n s : Nat), wtTs l ≤ k → thrT (notH h).mc n s l = thrT h.mc n s l) := by
  intro k
  induction k with
  | zero =>
    refine ⟨fun t ht => by rw [wtT_eq] at ht; omega, fun l n s hl => ?_⟩
    cases l with
    | nil => rw [thrT, thrT]
    | cons t l => rw [wtTs, wtT_eq] at hl; omega
  | succ k ih =>
    have hst : ∀ t : Tr, wtT t ≤ k + 1 → stT (notH h).mc t = stT h.mc t := fun t ht => by
      cases t with
      | mk a ks =>
        rw [wtT] at ht
        rw [stT, stT, ih.2 ks a.toNat 0 (by omega)]
        have hL : (notH h).mc.L = h.mc.L := rfl
        rw [hL]
        by_cases hc : 0 ≤ a ∧ a.toNat < h.mc.L
        · rw [if_pos hc, if_pos hc]
          have ho : (notH h).mc.out a.toNat = h.mc.out a.toNat := by
            funext s
            show ((notH h).side a.toNat).tell s = (h.side a.toNat).tell s
            rw [notH_side hc.2]
          rw [ho]
        · rw [if_neg hc, if_neg hc]
    refine ⟨hst, fun l => ?_⟩
    induction l with
    | nil => intro n s _; rw [thrT, thrT]
    | cons t l ihl =>
      intro n s hl
      rw [wtTs] at hl
      rw [thrT, thrT, hst t (by omega)]
      cases stT h.mc t with
      | none => rfl
      | some v => simp only [notH_nx]; exact ihl n _ (by omega)
end Go.Proofs.YtnkelhmjkmeilaaGreatDoor.H
end
section
namespace Go.Proofs.YtnkelhmjkmeilaaGreatDoor.H
open Go.RowKit Go.Maps Go.WideMaps
attribute [local go_sem ↓] Go.wp_at_zero Go.wp_at_succ
theorem notH_acc' {h : Hd} {m : Nat} {l : List Tr} {s : Nat} (hO : HdOk h m) (hm : m ≤ 400) (hs : thrT h.mc h.labs.length 0 l = some s) : accB (notH h).mc l = ! accB h.mc l := by
  have h1 := (notH_thr h _).2 l h.labs.length 0 (Nat.le_refl _)
  have hM := hO.mcOk hm
  have hlt := (thr_lt hM).2 l h.labs.length 0 s (Nat.le_refl _) (by show 0 < (h.side h.labs.length).out.length; rw [Hd.side_ge (Nat.le_refl _)]; exact hO.root.pos) hs
  have hlt' : s < h.root.out.length := by
    have h9 : s < (h.side h.labs.length).out.length := hlt
    rw [Hd.side_ge (Nat.le_refl _)] at h9
    exact h9
  unfold accB
  have e1 : (notH h).mc.L = h.labs.length := rfl
  have e2 : h.mc.L = h.labs.length := rfl
  rw [e1, e2, h1, hs]
  have o1 : (notH h).mc.out h.labs.length s = ((flip h.root.out h.root.out.length)[s]?.getD 0).toNat := by
    show ((notH h).side h.labs.length).tell s = _
    have e9 : (notH h).side h.labs.length = (notH h).root := Hd.side_ge (h := notH h) (show h.labs.length ≤ h.labs.length from Nat.le_refl _)
    rw [e9]
    rfl
  have o2 : h.mc.out h.labs.length s = (h.root.out[s]?.getD 0).toNat := by
    show (h.side h.labs.length).tell s = _
    rw [Hd.side_ge (Nat.le_refl _)]
    rfl
  simp only [Option.map_some, stateI, o1, o2]
  rw [flip_all, List.getElem?_map, List.getElem?_eq_getElem hlt']
  have hx := hO.root.outs _ (List.getElem_mem hlt')
  have hc : h.root.out[s] = 0 ∨ h.root.out[s] = 1 := by omega
  rcases hc with hc | hc <;> simp [hc]
theorem acc_not {h : Hd} {m : Nat} {l : List Tr} (hO : HdOk h m) (hm : m ≤ 400) (ha : Acc (notH h).mc l) : accB h.mc l = false := by
  obtain ⟨s, h1, h2⟩ := ha
  have h3 := (notH_thr h _).2 l h.labs.length 0 (Nat.le_refl _)
  have e1 : (notH h).mc.L = h.labs.length := rfl
  rw [e1] at h1
  have hs : thrT h.mc h.labs.length 0 l = some s := by rw [← h3]; exact h1
  have h4 := notH_acc' hO hm hs
  have h5 : accB (notH h).mc l = true := accB_iff.2 ⟨s, h1, h2⟩
  rw [h5] at h4
  cases hb : accB h.mc l with
  | false => rfl
  | true => rw [hb] at h4; cases h4
theorem differ_some {a b : Hd} {l : List Tr} (hO : HdOk a 4) (hO' : HdOk b 4) (hL : a.labs.length = b.labs.length) (h : Acc (andH a (notH b)).mc l) : accB a.mc l = true ∧ accB b.mc l = false := by
  have h1 := (and_acc hO (notH_ok hO') (by decide) (by decide) hL l).1 h
  exact ⟨accB_iff.2 h1.1, acc_not hO' (by decide) h1.2⟩
end Go.Proofs.YtnkelhmjkmeilaaGreatDoor.H
end
section
namespace Go.Proofs.YtnkelhmjkmeilaaGreatDoor.H
open Go.RowKit Go.Maps Go.WideMaps
attribute [local go_sem ↓] Go.wp_at_zero Go.wp_at_succ
set_option maxHeartbeats 2000000 in
set_option maxRecDepth 100000 in
theorem Common_any {w : World} {g h : Hd} {A B C A' B' C' : Option Addr} {c c1 c2 d d1 d2 : Nat} (H : HdV w (fun b => b < w.heap.size) g A c B c1 C c2) (H' : HdV w (fun b => b < w.heap.size) h A' d B' d1 C' d2) (hO : HdOk g 4) (hO' : HdOk h 4) (hL : g.labs.length = h.labs.length) :
    Calls Tryz.prog 46 #[hdVal g A c B c1 C c2, hdVal h A' d B' d1 C' d2] w (LeastRet (andH g h).mc w) := by
  have HLL := Lib.hid hL
  have he0 : ((g.labs.length : Int) == (h.labs.length : Int)) = true := by rw [hL]; simp
  have he1 : ((g.labs.length : Int) != (h.labs.length : Int)) = false := by rw [hL]; simp
  clear hL
  have hB0 := (Below.refl _ w).alloc (Nat.le_refl _) (.cells #[.int .i64 g.K, .slice A g.labs.length c, .slice B g.root.nx.length c1, .slice C g.root.out.length c2] 115)
  have hx0 := heap_alloc_new w (.cells #[.int .i64 g.K, .slice A g.labs.length c, .slice B g.root.nx.length c1, .slice C g.root.out.length c2] 115)
  have hs0 : (w.alloc (.cells #[.int .i64 g.K, .slice A g.labs.length c, .slice B g.root.nx.length c1, .slice C g.root.out.length c2] 115)).heap.size = w.heap.size + 1 := World.size_alloc _ _
  have hB1 := hB0.alloc (by omega) (.cells #[.int .i64 h.K, .slice A' h.labs.length d, .slice B' h.root.nx.length d1, .slice C' h.root.out.length d2] 115)
  have hx1 := heap_alloc_new (w.alloc (.cells #[.int .i64 g.K, .slice A g.labs.length c, .slice B g.root.nx.length c1, .slice C g.root.out.length c2] 115)) (.cells #[.int .i64 h.K, .slice A' h.labs.length d, .slice B' h.root.nx.length d1, .slice C' h.root.out.length d2] 115)
  have hx0' := (Below.heap_alloc (w.alloc (.cells #[.int .i64 g.K, .slice A g.labs.length c, .slice B g.root.nx.length c1, .slice C g.root.out.length c2] 115)) (.cells #[.int .i64 h.K, .slice A' h.labs.length d, .slice B' h.root.nx.length d1, .slice C' h.root.out.length d2] 115) w.heap.size (by omega)).trans hx0
  rw [hs0] at hx1
  go_enter Tryz.func46, Tryz.ntmps46
  go_upto_region 1 with fail
  generalize (w.alloc (.cells #[.int .i64 g.K, .slice A g.labs.length c, .slice B g.root.nx.length c1, .slice C g.root.out.length c2] 115)).alloc (.cells #[.int .i64 h.K, .slice A' h.labs.length d, .slice B' h.root.nx.length d1, .slice C' h.root.out.length d2] 115) = W1 at *
  have x0 := Lib.cell_of_heap hx0' 0
  have x1 := Lib.cell_of_heap hx0' 1
  have x2 := Lib.cell_of_heap hx0' 2
  have x3 := Lib.cell_of_heap hx0' 3
  have y0 := Lib.cell_of_heap hx1 0
  have y1 := Lib.cell_of_heap hx1 1
  have y2 := Lib.cell_of_heap hx1 2
  have y3 := Lib.cell_of_heap hx1 3
  simp only [List.getElem?_toArray, List.getElem?_cons_zero, List.getElem?_cons_succ] at x0 x1 x2 x3 y0 y1 y2 y3
  have hwl0 := (Array.getElem?_eq_some_iff.1 hx0').1
  have hwl1 := (Array.getElem?_eq_some_iff.1 hx1).1
  have HB := Lib.hid hB1
  have HV := Lib.hid (H.on hB1)
  have HV' := Lib.hid (H'.on hB1)
  have HX := Lib.hid (And.intro hx0' hx1)
  clear hB0 hB1 hx0 hx1 hx0' hs0 H H'
  have HS := Lib.hid (sound_any HV.out)
  go_wp2_with fail
  refine HS.out.mono ?_
  rintro e W2 ⟨b, rfl, hb, b2⟩
  obtain rfl : b = true := hb.2 hO.sound
  have hx2 := (b2.block _ hwl0).trans HX.out.1
  have hx3 := (b2.block _ hwl1).trans HX.out.2
  have HB2 := Lib.hid (HB.out.trans (b2.mono HB.out.size))
  have HV2 := Lib.hid (HV.out.on b2)
  have HV2' := Lib.hid (HV'.out.on b2)
  have HX2 := Lib.hid (And.intro hx2 hx3)
  replace x0 := Lib.cell_of_heap hx2 0
  replace x1 := Lib.cell_of_heap hx2 1
  replace x2 := Lib.cell_of_heap hx2 2
  replace x3 := Lib.cell_of_heap hx2 3
  replace y0 := Lib.cell_of_heap hx3 0
  replace y1 := Lib.cell_of_heap hx3 1
  replace y2 := Lib.cell_of_heap hx3 2
  replace y3 := Lib.cell_of_heap hx3 3
  simp only [List.getElem?_toArray, List.getElem?_cons_zero, List.getElem?_cons_succ] at x0 x1 x2 x3 y0 y1 y2 y3
  have hwl2 := Nat.lt_of_lt_of_le hwl0 b2.size
  have hwl3 := Nat.lt_of_lt_of_le hwl1 b2.size
  clear hb b2 hx2 hx3 HS
  have HS := Lib.hid (sound_any HV2'.out)
  go_wp2_with fail
  refine HS.out.mono ?_
  rintro e W3 ⟨b, rfl, hb, b3⟩
  obtain rfl : b = true := hb.2 hO'.sound
  have hx2 := (b3.block _ hwl2).trans HX2.out.1
  have hx3 := (b3.block _ hwl3).trans HX2.out.2
  have HB3 := Lib.hid (HB2.out.trans (b3.mono HB2.out.size))
  replace x0 := Lib.cell_of_heap hx2 0
  replace x1 := Lib.cell_of_heap hx2 1
  replace x2 := Lib.cell_of_heap hx2 2
  replace x3 := Lib.cell_of_heap hx2 3
  replace y0 := Lib.cell_of_heap hx3 0
  replace y1 := Lib.cell_of_heap hx3 1
  replace y2 := Lib.cell_of_heap hx3 2
  replace y3 := Lib.cell_of_heap hx3 3
  simp only [List.getElem?_toArray, List.getElem?_cons_zero, List.getElem?_cons_succ] at x0 x1 x2 x3 y0 y1 y2 y3
  have hok := and_ok hO hO' HLL.out
  have HLE := Lib.hid (least_any (mach_tog (HV2.out.on b3) (HV2'.out.on b3) hO hO' (by decide) (by decide) HLL.out) (hok.mcOk (by decide)) hok.out2)
  clear hb b3 hx2 hx3 HS hok
  go_wp2_with fail
  refine HLE.out.mono ?_
  intro e W4 hR
  have HR := Lib.hid (hR.from HB3.out)
  obtain ⟨A3, n3, c3, b3, rfl⟩ := hR.shape
  clear hR
  go_wp2
  go_ret2
  exact HR.out
end Go.Proofs.YtnkelhmjkmeilaaGreatDoor.H
end
