/- compile.told, compile.Nodes of one tree that is a text or a comment, policy.Inside. compile.Nodes of one tree that is a text or a comment. -/
import Derived.Test.YtnkelhmjkmeilaaGreatDoorT41
section
namespace Go.Proofs.YtnkelhmjkmeilaaGreatDoor.H
open Go.RowKit
attribute [local go_sem ↓] Go.wp_at_zero Go.wp_at_succ
abbrev labV (k : Int) : Value := .agg #[.int .i64 k, .string ⟨#[]⟩, .string ⟨#[]⟩, .bool false, .string ⟨#[]⟩, .bool false, .bool false]
theorem ret_lb {f : Func} {p : Tmp} (h : f.results = #[.cell p 141]) {a : Act} {w : World} {g : Nat} {k : Int} {R : Ending → World → Prop} (hp : a.tmps.getD p undef = .pointer (some ⟨g, 0, none⟩)) (hd : a.defers = [])
    (hg : w.heap[g]? = some (.cells #[.int .i64 k, .string ⟨#[]⟩, .string ⟨#[]⟩, .bool false, .string ⟨#[]⟩, .bool false, .bool false] 141 (0, 0))) (hR : R (.returned (labV k)) w) : bodyPost Tryz.prog f R .ret a w := by
  have hc := fun j => Lib.cell_of_heap hg j
  have c0 := hc 0
  have c1 := hc 1
  have c2 := hc 2
  have c3 := hc 3
  have c4 := hc 4
  have c5 := hc 5
  have c6 := hc 6
  simp only [List.getElem?_toArray, List.getElem?_cons_zero, List.getElem?_cons_succ] at c0 c1 c2 c3 c4 c5 c6
  refine bodyPost_ret (v := labV k) ?_ hd hR
  rw [results_cell1' h, hp]
  go_simp
theorem stored7 {W : World} {g : Nat} {a0 a1 a2 a3 a4 a5 a6 : Value} {T : TypeId} (h : W.heap[g]? = some (.cells #[a0, a1, a2, a3, a4, a5, a6] T (0, 0))) (v0 v1 v2 v3 v4 v5 v6 : Value) :
    (((((((W.setCell ⟨g, 0, none⟩ v0).setCell ⟨g, 1, none⟩ v1).setCell ⟨g, 2, none⟩ v2).setCell ⟨g, 3, none⟩ v3).setCell ⟨g, 4, none⟩ v4).setCell ⟨g, 5, none⟩ v5).setCell ⟨g, 6, none⟩ v6).heap[g]? = some (.cells #[v0, v1, v2, v3, v4, v5, v6] T (0, 0)) := by
  have h0 := heap_setCell_same W g 0 _ _ v0 h
  have h1 := heap_setCell_same _ g 1 _ _ v1 h0
  have h2 := heap_setCell_same _ g 2 _ _ v2 h1
  have h3 := heap_setCell_same _ g 3 _ _ v3 h2
  have h4 := heap_setCell_same _ g 4 _ _ v4 h3
  have h5 := heap_setCell_same _ g 5 _ _ v5 h4
  have h6 := heap_setCell_same _ g 6 _ _ v6 h5
  simpa using h6
theorem below7 {w W : World} {g B : Nat} (h : Below B w W) (hg : B ≤ g) (v0 v1 v2 v3 v4 v5 v6 : Value) : Below B w (((((((W.setCell ⟨g, 0, none⟩ v0).setCell ⟨g, 1, none⟩ v1).setCell ⟨g, 2, none⟩ v2).setCell ⟨g, 3, none⟩ v3).setCell ⟨g, 4, none⟩ v4).setCell ⟨g, 5, none⟩ v5).setCell ⟨g, 6, none⟩ v6) :=
  ((((((h.setCell (p := ⟨g, 0, none⟩) hg _).setCell (p := ⟨g, 1, none⟩) hg _).setCell (p := ⟨g, 2, none⟩) hg _).setCell (p := ⟨g, 3, none⟩) hg _).setCell (p := ⟨g, 4, none⟩) hg _).setCell (p := ⟨g, 5, none⟩) hg _).setCell (p := ⟨g, 6, none⟩) hg _
set_option maxHeartbeats 4000000 in
set_option maxRecDepth 100000 in
theorem told_any {w : World} {g : Nat} {lab : Int} (hL : LabsAt w g) (hlab : lab = 0 ∨ lab = 1) : Calls Tryz.prog 82 #[.slice (some ⟨g, 0, none⟩) 2 2, .agg #[.int .i64 lab, .slice none 0 0]] w fun e w' => e = .returned (labV (lab + 1)) ∧ Below w.heap.size w w' := by
  have b1 := (Below.refl _ w).alloc (Nat.le_refl _) (.cells #[.int .i64 lab, .slice none 0 0] 157)
  have b2 := b1.alloc b1.size (.cells #[.int .i64 0, .string ⟨#[]⟩, .string ⟨#[]⟩, .bool false, .string ⟨#[]⟩, .bool false, .bool false] 141)
  have hx := heap_alloc_new (w.alloc (.cells #[.int .i64 lab, .slice none 0 0] 157)) (.cells #[.int .i64 0, .string ⟨#[]⟩, .string ⟨#[]⟩, .bool false, .string ⟨#[]⟩, .bool false, .bool false] 141)
  rw [World.size_alloc] at hx
  have hL2 := hL.on b2
  have z := fun k => Lib.cell_of_heap hL2 k
  have x0 := Lib.cell_of_heap ((Below.heap_alloc _ _ _ (by rw [World.size_alloc]; omega)).trans (heap_alloc_new w (.cells #[.int .i64 lab, .slice none 0 0] 157)) : ((w.alloc (.cells #[.int .i64 lab, .slice none 0 0] 157)).alloc (.cells #[.int .i64 0, .string ⟨#[]⟩, .string ⟨#[]⟩, .bool false, .string ⟨#[]⟩, .bool false, .bool false] 141)).heap[w.heap.size]? = _) 0
  have y := fun k => Lib.cell_of_heap hx k
  have f0 := Lib.frozen_of_heap hx 0
  have f1 := Lib.frozen_of_heap hx 1
  have f2 := Lib.frozen_of_heap hx 2
  have f3 := Lib.frozen_of_heap hx 3
  have f4 := Lib.frozen_of_heap hx 4
  have f5 := Lib.frozen_of_heap hx 5
  have f6 := Lib.frozen_of_heap hx 6
  have y0 := y 0
  have y1 := y 1
  have y2 := y 2
  have y3 := y 3
  have y4 := y 4
  have y5 := y 5
  have y6 := y 6
  simp only [List.getElem?_toArray, List.getElem?_cons_zero, List.getElem?_cons_succ] at x0 y0 y1 y2 y3 y4 y5 y6
  clear y
  rcases hlab with rfl | rfl
  · have z0 := z 0
    have z1 := z 1
    have z2 := z 2
    have z3 := z 3
    have z4 := z 4
    have z5 := z 5
    have z6 := z 6
    simp only [labCs, List.getElem?_toArray, List.getElem?_cons_zero, List.getElem?_cons_succ] at z0 z1 z2 z3 z4 z5 z6
    go_enter Tryz.func82, Tryz.ntmps82
    go_upto_region 1 with fail
    generalize (w.alloc (.cells #[.int .i64 0, .slice none 0 0] 157)).alloc (.cells #[.int .i64 0, .string ⟨#[]⟩, .string ⟨#[]⟩, .bool false, .string ⟨#[]⟩, .bool false, .bool false] 141) = W1 at *
    clear z hL hL2 b1
    go_wp2
    exact ret_lb rfl rfl rfl (stored7 hx _ _ _ _ _ _ _) ⟨rfl, below7 b2 (Nat.le_succ _) _ _ _ _ _ _ _⟩
  · have z0 := z 7
    have z1 := z 8
    have z2 := z 9
    have z3 := z 10
    have z4 := z 11
    have z5 := z 12
    have z6 := z 13
    simp only [labCs, List.getElem?_toArray, List.getElem?_cons_zero, List.getElem?_cons_succ] at z0 z1 z2 z3 z4 z5 z6
    go_enter Tryz.func82, Tryz.ntmps82
    go_upto_region 1 with fail
    generalize (w.alloc (.cells #[.int .i64 1, .slice none 0 0] 157)).alloc (.cells #[.int .i64 0, .string ⟨#[]⟩, .string ⟨#[]⟩, .bool false, .string ⟨#[]⟩, .bool false, .bool false] 141) = W1 at *
    clear z hL hL2 b1
    go_wp2
    exact ret_lb rfl rfl rfl (stored7 hx _ _ _ _ _ _ _) ⟨rfl, below7 b2 (Nat.le_succ _) _ _ _ _ _ _ _⟩
abbrev nodV (k : Int) (t : ByteArray) : Value := .agg #[.int .i64 k, .string ⟨#[]⟩, .slice none 0 0, .string t, .slice none 0 0]
theorem spot_none {w : World} {T : Addr} {v : Value} (h : w.cell? T = some v) : T = ⟨T.block, T.off, none⟩ := by
  obtain ⟨b, o, s⟩ := T
  cases s with
  | none => rfl
  | some k =>
    unfold World.cell? at h
    simp only [Option.isSome_some, if_true] at h
    split at h <;> cases h
set_option maxHeartbeats 4000000 in
set_option maxRecDepth 100000 in
theorem Inside_any {w : World} {T : Addr} {U : Option Addr} {cT cU : Nat} {k : Int} (hk : k = 2 ∨ k = 3) (t : ByteArray) (hT : w.cell? T = some (strV wText)) (hb : T.block < w.heap.size) :
    Calls Tryz.prog 162 #[polV T cT U cU, .string ⟨#[]⟩, nodV k t] w fun e w' => e = .returned (.bool (decide (k = 2))) ∧ Below w.heap.size w w' := by
  obtain ⟨tb, tf, hTe⟩ : ∃ tb tf, T = ⟨tb, tf, none⟩ := ⟨_, _, spot_none hT⟩
  subst hTe
  unfold polV
  have b1 := (Below.refl _ w).alloc (Nat.le_refl _) (.cells #[.slice (some ⟨tb, tf, none⟩) 1 cT, .slice none 0 0, .slice U 0 cU] 75)
  have b2 := b1.alloc b1.size (.cells #[.int .i64 k, .string ⟨#[]⟩, .slice none 0 0, .string t, .slice none 0 0] 28)
  have hC := fun x => Tryz.slices_Contains_string tb tf 1 cT [⟨#[35, 116, 101, 120, 116]⟩] x ((w.alloc (.cells #[.slice (some ⟨tb, tf, none⟩) 1 cT, .slice none 0 0, .slice U 0 cU] 75)).alloc (.cells #[.int .i64 k, .string ⟨#[]⟩, .slice none 0 0, .string t, .slice none 0 0] 28)) (by decide) (by decide) (fun j hj => by
    obtain rfl : j = 0 := by simpa using hj
    exact (b2.cell (p := ⟨tb, tf, none⟩) hb).trans hT)
  rcases hk with rfl | rfl
  · have HC := Lib.hid (hC ⟨#[35, 116, 101, 120, 116]⟩)
    clear hC
    go_enter Tryz.func162, Tryz.ntmps162
    go_wp2_with fail
    refine HC.out.mono ?_
    rintro e w' ⟨rfl, rfl⟩
    go_wp2
    go_ret
    exact ⟨ret_bool (by decide +kernel), b2⟩
  · have HC := Lib.hid (hC ⟨#[35, 99, 111, 109, 109, 101, 110, 116]⟩)
    clear hC
    go_enter Tryz.func162, Tryz.ntmps162
    go_wp2_with fail
    refine HC.out.mono ?_
    rintro e w' ⟨rfl, rfl⟩
    go_wp2
    go_ret
    exact ⟨ret_bool (by decide +kernel), b2⟩
end Go.Proofs.YtnkelhmjkmeilaaGreatDoor.H
end
section
namespace Go.Proofs.YtnkelhmjkmeilaaGreatDoor.H
open Go.RowKit
attribute [local go_sem ↓] Go.wp_at_zero Go.wp_at_succ
def nodT (lab : Int) : ByteArray := if lab = 0 then ⟨#[120]⟩ else ⟨#[]⟩
def NodesRet (lab : Int) (w : World) (e : Ending) (w' : World) : Prop := ∃ n c, e = .returned (.slice (some ⟨n, 0, none⟩) 1 c) ∧
  w'.ownsRow w.heap.size 28 5 (.slice (some ⟨n, 0, none⟩) 1 c) 1 [.int .i64 (lab + 2), .string ⟨#[]⟩, .slice none 0 0, .string (nodT lab), .slice none 0 0] ∧ Below w.heap.size w w'
set_option maxHeartbeats 8000000 in
set_option maxRecDepth 100000 in
theorem Nodes_one {w : World} {g q c : Nat} {lab : Int} (hL : LabsAt w g) (hlab : lab = 0 ∨ lab = 1) (h0 : w.cell? ⟨q, 0, none⟩ = some (.int .i64 lab)) (h1 : w.cell? ⟨q, 1, none⟩ = some (.slice none 0 0)) :
    Calls Tryz.prog 50 #[.slice (some ⟨g, 0, none⟩) 2 2, .slice (some ⟨q, 0, none⟩) 1 c] w (NodesRet lab w) := by
  have b1 := (Below.refl _ w).alloc (Nat.le_refl _) (.cells #[.int .i64 lab, .slice none 0 0] 157)
  have HT := Lib.hid (told_any (hL.on b1) hlab)
  have HB := Lib.hid b1
  have HL := Lib.hid hlab
  clear hL b1 hlab
  go_enter Tryz.func50, Tryz.ntmps50
  go_wp2_with fail
  refine wp_loop_rounds 2 ?_
  rw [rounds_succ]
  go_wp2_with fail
  refine HT.out.mono ?_
  rintro e W2 ⟨rfl, b2⟩
  have hb12 := bt HB.out b2
  rcases HL.out with rfl | rfl
  · have hx3 := heap_alloc_new W2 (.cells #[.int .i64 1, .string ⟨#[]⟩, .string ⟨#[]⟩, .bool false, .string ⟨#[]⟩, .bool false, .bool false] 141)
    have hb13 := hb12.alloc hb12.size (.cells #[.int .i64 1, .string ⟨#[]⟩, .string ⟨#[]⟩, .bool false, .string ⟨#[]⟩, .bool false, .bool false] 141)
    have hs := hb13.size
    go_upto_region 6 with fail
    generalize W2.alloc (.cells #[.int .i64 1, .string ⟨#[]⟩, .string ⟨#[]⟩, .bool false, .string ⟨#[]⟩, .bool false, .bool false] 141) = W3 at *
    have hown0 := World.ownsRow_nil W3 w.heap.size 28 5
    have z0 := Lib.cell_of_heap hx3 0
    simp only [List.getElem?_toArray, List.getElem?_cons_zero] at z0
    go_wp2_with (at_builtin; go_must (refine wpList_push rfl _ _ _ rfl w.heap.size rowNd none 0 0 [] rfl hown0 [.int .i64 2, .string ⟨#[]⟩, .slice none 0 0, .string ⟨#[120]⟩, .slice none 0 0] _ rfl rfl (by simp [Value.oneCell']) (by unfold maxLen; omega) (by omega) hs ?_))
    intro A6 c6 W6 hc6 ho6 hg6
    have hb6 := hb13.grown hg6 hs (fun k hk => by cases hk)
    obtain ⟨n, cap, hv, _, _⟩ := ho6.form (Nat.succ_pos _)
    obtain rfl : A6 = some ⟨n, 0, none⟩ := by injection hv
    have HR := Lib.hid (show NodesRet 0 w (.returned (.slice (some ⟨n, 0, none⟩) 1 c6)) W6 from ⟨n, c6, rfl, ho6, hb6⟩)
    clear ho6 hg6 hb6 hv hb13 hown0 hb12 b2 hx3 z0
    go_wp2_with fail
    rw [rounds_succ]
    go_wp2
    go_ret
    exact HR.out
  · have hx3 := heap_alloc_new W2 (.cells #[.int .i64 2, .string ⟨#[]⟩, .string ⟨#[]⟩, .bool false, .string ⟨#[]⟩, .bool false, .bool false] 141)
    have hb13 := hb12.alloc hb12.size (.cells #[.int .i64 2, .string ⟨#[]⟩, .string ⟨#[]⟩, .bool false, .string ⟨#[]⟩, .bool false, .bool false] 141)
    have hs := hb13.size
    go_upto_region 6 with fail
    generalize W2.alloc (.cells #[.int .i64 2, .string ⟨#[]⟩, .string ⟨#[]⟩, .bool false, .string ⟨#[]⟩, .bool false, .bool false] 141) = W3 at *
    have hown0 := World.ownsRow_nil W3 w.heap.size 28 5
    have z0 := Lib.cell_of_heap hx3 0
    simp only [List.getElem?_toArray, List.getElem?_cons_zero] at z0
    go_wp2_with (at_builtin; go_must (refine wpList_push rfl _ _ _ rfl w.heap.size rowNd none 0 0 [] rfl hown0 [.int .i64 3, .string ⟨#[]⟩, .slice none 0 0, .string ⟨#[]⟩, .slice none 0 0] _ rfl rfl (by simp [Value.oneCell']) (by unfold maxLen; omega) (by omega) hs ?_))
    intro A6 c6 W6 hc6 ho6 hg6
    have hb6 := hb13.grown hg6 hs (fun k hk => by cases hk)
    obtain ⟨n, cap, hv, _, _⟩ := ho6.form (Nat.succ_pos _)
    obtain rfl : A6 = some ⟨n, 0, none⟩ := by injection hv
    have HR := Lib.hid (show NodesRet 1 w (.returned (.slice (some ⟨n, 0, none⟩) 1 c6)) W6 from ⟨n, c6, rfl, ho6, hb6⟩)
    clear ho6 hg6 hb6 hv hb13 hown0 hb12 b2 hx3 z0
    go_wp2_with fail
    rw [rounds_succ]
    go_wp2
    go_ret
    exact HR.out
end Go.Proofs.YtnkelhmjkmeilaaGreatDoor.H
end
