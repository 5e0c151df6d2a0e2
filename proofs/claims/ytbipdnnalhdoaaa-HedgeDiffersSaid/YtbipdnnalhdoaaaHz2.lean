/- The law's lives. -/
import Derived.Test.YtbipdnnalhdoaaaHz1
namespace Go.Proofs.Ytbipdnnalhdoaaa
open Go.RowKit Go.Maps Go.WideMaps
attribute [local go_sem ↓] Go.wp_at_zero Go.wp_at_succ

def allocs (w : World) (os : List Obj) : World := os.foldl World.alloc w
theorem allocs_size (w : World) (os : List Obj) : (allocs w os).heap.size = w.heap.size + os.length := by
  unfold allocs
  induction os generalizing w with
  | nil => rfl
  | cons o os ih => rw [List.foldl_cons, ih, World.size_alloc, List.length_cons]; omega
theorem allocs_below (w : World) (os : List Obj) : Below w.heap.size w (allocs w os) := by
  unfold allocs
  induction os generalizing w with
  | nil => exact Below.refl _ _
  | cons o os ih =>
    rw [List.foldl_cons]
    have h1 := (Below.refl _ w).alloc (Nat.le_refl _) o
    exact h1.trans ((ih (w.alloc o)).mono h1.size)
theorem allocs_at (w : World) : ∀ (os : List Obj) (k : Nat) (o : Obj), os[k]? = some o → (allocs w os).heap[w.heap.size + k]? = some o := by
  intro os
  induction os generalizing w with
  | nil => intro k o h; simp at h
  | cons x os ih =>
    intro k o h
    have hs : (w.alloc x).heap.size = w.heap.size + 1 := World.size_alloc _ _
    cases k with
    | zero =>
      simp at h
      subst h
      show (allocs (w.alloc x) os).heap[w.heap.size]? = _
      rw [(allocs_below (w.alloc x) os).block _ (by omega)]
      exact heap_alloc_new w x
    | succ k =>
      have := ih (w.alloc x) k o (by simpa using h)
      rw [hs] at this
      show (allocs (w.alloc x) os).heap[w.heap.size + (k + 1)]? = _
      rw [show w.heap.size + (k + 1) = w.heap.size + 1 + k by omega]
      exact this
/-- a row that is a whole block -/
theorem SlP.block {w : World} {S : Nat → Prop} {g z n : Nat} {cs : List Cl} {xs : List Value} {e : TypeId} (hg : w.heap[g]? = some (.cells xs.toArray e (0, 0))) (hS : S g) (hl : xs.length = n * z) (hc : CsIsP w S cs xs) : SlP w S z (some ⟨g, 0, none⟩) n cs :=
  ⟨xs, ⟨hl, fun _ => ⟨_, rfl, hS, fun j u hu => World.news_of_block (fr := (0, 0)) hg j u hu⟩⟩, hc⟩
def hl0 : Hd := ⟨1, [⟨[[0]], [0]⟩], ⟨[[0]], [1]⟩⟩
theorem hl0_ok : HdOk hl0 1 := by
  refine ⟨by decide, fun s hs => ?_, ⟨by decide, rfl, fun r hr => ?_, fun x hx => ?_⟩, by decide, fun s hs => ?_, by decide, by decide⟩
  · simp only [hl0, List.mem_cons, List.not_mem_nil, or_false] at hs
    subst hs
    refine ⟨by decide, rfl, fun r hr => ?_, fun x hx => ?_⟩
    · simp only [List.mem_cons, List.not_mem_nil, or_false] at hr
      subst hr
      exact ⟨rfl, fun x hx => by simp only [List.mem_cons, List.not_mem_nil, or_false] at hx; subst hx; decide⟩
    · simp only [List.mem_cons, List.not_mem_nil, or_false] at hx
      subst hx
      decide
  · simp only [hl0, List.mem_cons, List.not_mem_nil, or_false] at hr
    subst hr
    exact ⟨rfl, fun x hx => by simp only [List.mem_cons, List.not_mem_nil, or_false] at hx; subst hx; decide⟩
  · simp only [hl0, List.mem_cons, List.not_mem_nil, or_false] at hx
    subst hx
    decide
  · simp only [hl0, List.mem_cons, List.not_mem_nil, or_false] at hs
    subst hs
    decide
/-- the law's automaton in memory -/
theorem hl0_mem {w W : World} {o3 : Obj} {os : List Obj} {b : Nat} (hb : b = w.heap.size) (hW : W = allocs w ([.cells #[.int .i64 0] 3, .cells #[.slice (some ⟨b, 0, none⟩) 1 1] 24, .cells #[.int .i64 0] 3, o3,
      .cells #[.slice (some ⟨b + 1, 0, none⟩) 1 1, .slice (some ⟨b + 1 + 1, 0, none⟩) 1 1] 26, .cells #[.int .i64 0] 3, .cells #[.slice (some ⟨b + 1 + 1 + 1 + 1 + 1, 0, none⟩) 1 1] 24, .cells #[.int .i64 1] 3] ++ os)) :
    HdV W (fun q => q < W.heap.size) hl0 (some ⟨b + 1 + 1 + 1 + 1, 0, none⟩) 1 (some ⟨b + 1 + 1 + 1 + 1 + 1 + 1, 0, none⟩) 1 (some ⟨b + 1 + 1 + 1 + 1 + 1 + 1 + 1, 0, none⟩) 1 := by
  subst hb
  have hsz := allocs_size w ([.cells #[.int .i64 0] 3, .cells #[.slice (some ⟨w.heap.size, 0, none⟩) 1 1] 24, .cells #[.int .i64 0] 3, o3,
      .cells #[.slice (some ⟨w.heap.size + 1, 0, none⟩) 1 1, .slice (some ⟨w.heap.size + 1 + 1, 0, none⟩) 1 1] 26, .cells #[.int .i64 0] 3, .cells #[.slice (some ⟨w.heap.size + 1 + 1 + 1 + 1 + 1, 0, none⟩) 1 1] 24, .cells #[.int .i64 1] 3] ++ os)
  have hat := allocs_at w ([.cells #[.int .i64 0] 3, .cells #[.slice (some ⟨w.heap.size, 0, none⟩) 1 1] 24, .cells #[.int .i64 0] 3, o3,
      .cells #[.slice (some ⟨w.heap.size + 1, 0, none⟩) 1 1, .slice (some ⟨w.heap.size + 1 + 1, 0, none⟩) 1 1] 26, .cells #[.int .i64 0] 3, .cells #[.slice (some ⟨w.heap.size + 1 + 1 + 1 + 1 + 1, 0, none⟩) 1 1] 24, .cells #[.int .i64 1] 3] ++ os)
  rw [← hW] at hsz hat
  simp only [List.length_append, List.length_cons, List.length_nil] at hsz
  have h0 := hat 0 _ rfl
  have h1 := hat 1 _ rfl
  have h2 := hat 2 _ rfl
  have h4 := hat 4 _ rfl
  have h5 := hat 5 _ rfl
  have h6 := hat 6 _ rfl
  have h7 := hat 7 _ rfl
  have c1 : Cap 1 1 := ⟨Nat.le_refl _, by decide⟩
  have hi : ∀ (g : Nat) (x : Int), g < W.heap.size → W.heap[g]? = some (.cells #[.int .i64 x] 3 (0, 0)) → SlP W (fun q => q < W.heap.size) 1 (some ⟨g, 0, none⟩) 1 ([x].map .i) := fun g x hg h =>
    SlP.block (xs := [.int .i64 x]) h hg rfl (CsIsP.ints _ _ [x])
  have hr : ∀ (g g' : Nat), g < W.heap.size → W.heap[g]? = some (.cells #[.slice (some ⟨g', 0, none⟩) 1 1] 24 (0, 0)) → g' < W.heap.size → W.heap[g']? = some (.cells #[.int .i64 0] 3 (0, 0)) → SlP W (fun q => q < W.heap.size) 1 (some ⟨g, 0, none⟩) 1 ([[(0 : Int)]].map rowC) := fun g g' hg h hg' h' =>
    SlP.block (xs := [.slice (some ⟨g', 0, none⟩) 1 1]) h hg rfl (CsIsP.cons (CIsP.sl (hi g' 0 hg' h') c1) (CsIsP.nil _ _))
  refine ⟨?_, c1, hr _ _ (by omega) h6 (by omega) h5, c1, hi _ 1 (by omega) h7, c1⟩
  exact SlP.block (xs := [.slice (some ⟨w.heap.size + 1, 0, none⟩) 1 1, .slice (some ⟨w.heap.size + 1 + 1, 0, none⟩) 1 1]) h4 (by omega) rfl
    (CsIsP.cons (CIsP.sl (hr _ _ (by omega) h1 (by omega) h0) c1) (CsIsP.cons (CIsP.sl (hi _ 0 (by omega) h2) c1) (CsIsP.nil _ _)))

theorem hl0_may : MayP hl0 := ⟨by decide, hl0_ok.sound, fun k s hs => by
  have := hl0_ok.fewS s (List.mem_of_getElem? hs)
  omega, by decide⟩
theorem hl0_nil : Acc hl0.mc [] := ⟨0, rfl, rfl⟩
theorem hl0_one : accB hl0.mc [.mk 0 []] = true := by
  rw [accB_iff]
  refine ⟨0, ?_, rfl⟩
  rw [thrT, show stT hl0.mc (.mk 0 []) = some 0 from by rw [stT, if_pos ⟨by decide, by decide⟩, thrT]; rfl]
  rfl
theorem leastNil {w w' : World} {e : Ending} (h : LeastRet hl0.mc w e w') : (∃ A c, e = .returned (.tuple #[.slice A 0 c, .bool true])) ∧ Below w.heap.size w w' := by
  refine ⟨?_, h.1⟩
  rcases h.2 with ⟨A, c, l, e1, _, _, _, _, h6⟩ | ⟨_, h2⟩
  · have h7 := h6 [] hl0_nil
    have h8 := wtTs_ge l
    simp only [wtTs] at h7
    have h9 : l.length = 0 := by omega
    rw [h9] at e1
    exact ⟨A, c, e1⟩
  · have := h2 [] hl0_nil
    simp only [wtTs] at this
    omega
/-- one tree without kids, in a block of its own -/
theorem one_mem {w : World} : SlP (w.alloc (.cells #[.int .i64 0, .slice none 0 0] 38)) (fun q => q < (w.alloc (.cells #[.int .i64 0, .slice none 0 0] 38)).heap.size) 2 (some ⟨w.heap.size, 0, none⟩) 1 (trsC [.mk 0 []]) := by
  refine SlP.block (xs := [.int .i64 0, .slice none 0 0]) (heap_alloc_new w _) (by rw [World.size_alloc]; omega) rfl ?_
  rw [trsC, trC_eq, trsC]
  exact CsIsP.cons (CIsP.int _ _ _) (CsIsP.cons (CIsP.sl (SlP.nil _ _ _ _) ⟨Nat.le_refl _, by decide⟩) (CsIsP.nil _ _))
set_option maxHeartbeats 2000000 in
set_option maxRecDepth 100000 in
theorem lives_any (w : World) : Calls Try.prog 12 #[] w fun e w' => e = .returned (.bool true) ∧ Below w.heap.size w w' := by
  obtain ⟨b, hb⟩ : ∃ b, b = w.heap.size := ⟨_, rfl⟩
  have HB := Lib.hid hb
  go_enter Try.func12, Try.ntmps12
  go_upto_region 3 with fail
  rw [← hb]
  clear hb
  generalize hW : ((((((((w.alloc (.cells #[.int .i64 0] 3)).alloc (.cells #[.slice (some ⟨b, 0, none⟩) 1 1] 24)).alloc (.cells #[.int .i64 0] 3)).alloc (.cells #[.slice (some ⟨b + 1, 0, none⟩) 1 1, .slice (some ⟨b + 1 + 1, 0, none⟩) 1 1] 26)).alloc
    (.cells #[.slice (some ⟨b + 1, 0, none⟩) 1 1, .slice (some ⟨b + 1 + 1, 0, none⟩) 1 1] 26)).alloc (.cells #[.int .i64 0] 3)).alloc (.cells #[.slice (some ⟨b + 1 + 1 + 1 + 1 + 1, 0, none⟩) 1 1] 24)).alloc (.cells #[.int .i64 1] 3)).alloc
    (.cells #[.int .i64 1, .slice (some ⟨b + 1 + 1 + 1 + 1, 0, none⟩) 1 1, .slice (some ⟨b + 1 + 1 + 1 + 1 + 1 + 1, 0, none⟩) 1 1, .slice (some ⟨b + 1 + 1 + 1 + 1 + 1 + 1 + 1, 0, none⟩) 1 1] 28) = W
  have hW' : W = allocs w ([.cells #[.int .i64 0] 3, .cells #[.slice (some ⟨b, 0, none⟩) 1 1] 24, .cells #[.int .i64 0] 3, .cells #[.slice (some ⟨b + 1, 0, none⟩) 1 1, .slice (some ⟨b + 1 + 1, 0, none⟩) 1 1] 26,
      .cells #[.slice (some ⟨b + 1, 0, none⟩) 1 1, .slice (some ⟨b + 1 + 1, 0, none⟩) 1 1] 26, .cells #[.int .i64 0] 3, .cells #[.slice (some ⟨b + 1 + 1 + 1 + 1 + 1, 0, none⟩) 1 1] 24, .cells #[.int .i64 1] 3] ++
      [.cells #[.int .i64 1, .slice (some ⟨b + 1 + 1 + 1 + 1, 0, none⟩) 1 1, .slice (some ⟨b + 1 + 1 + 1 + 1 + 1 + 1, 0, none⟩) 1 1, .slice (some ⟨b + 1 + 1 + 1 + 1 + 1 + 1 + 1, 0, none⟩) 1 1] 28]) := hW.symm
  have hV := hl0_mem HB.out hW'
  have hx := allocs_at w _ 8 _ (show ([.cells #[.int .i64 0] 3, .cells #[.slice (some ⟨b, 0, none⟩) 1 1] 24, .cells #[.int .i64 0] 3, .cells #[.slice (some ⟨b + 1, 0, none⟩) 1 1, .slice (some ⟨b + 1 + 1, 0, none⟩) 1 1] 26,
      .cells #[.slice (some ⟨b + 1, 0, none⟩) 1 1, .slice (some ⟨b + 1 + 1, 0, none⟩) 1 1] 26, .cells #[.int .i64 0] 3, .cells #[.slice (some ⟨b + 1 + 1 + 1 + 1 + 1, 0, none⟩) 1 1] 24, .cells #[.int .i64 1] 3] ++
      [.cells #[.int .i64 1, .slice (some ⟨b + 1 + 1 + 1 + 1, 0, none⟩) 1 1, .slice (some ⟨b + 1 + 1 + 1 + 1 + 1 + 1, 0, none⟩) 1 1, .slice (some ⟨b + 1 + 1 + 1 + 1 + 1 + 1 + 1, 0, none⟩) 1 1] 28] : List Obj)[8]? = some _ from rfl)
  rw [← hW', ← HB.out] at hx
  have hbw : Below w.heap.size w W := by rw [hW']; exact allocs_below _ _
  have x0 := Lib.cell_of_heap hx 0
  have x1 := Lib.cell_of_heap hx 1
  have x2 := Lib.cell_of_heap hx 2
  have x3 := Lib.cell_of_heap hx 3
  simp only [List.getElem?_toArray, List.getElem?_cons_zero, List.getElem?_cons_succ] at x0 x1 x2 x3
  have hwl := (Array.getElem?_eq_some_iff.1 hx).1
  have HV := Lib.hid hV
  have HBW := Lib.hid hbw
  have HX := Lib.hid hx
  have HLE := Lib.hid (Least_any hV hl0_ok (by decide))
  clear hW hW' hV hx hbw
  go_wp2_with fail
  refine HLE.out.mono ?_
  intro e W2 hr
  obtain ⟨⟨A, c, rfl⟩, b2⟩ := leastNil hr
  have hx2 := (b2.block (b + 8) hwl).trans HX.out
  replace x0 := Lib.cell_of_heap hx2 0
  replace x1 := Lib.cell_of_heap hx2 1
  replace x2 := Lib.cell_of_heap hx2 2
  replace x3 := Lib.cell_of_heap hx2 3
  simp only [List.getElem?_toArray, List.getElem?_cons_zero, List.getElem?_cons_succ] at x0 x1 x2 x3
  have HX2 := Lib.hid hx2
  have HV2 := Lib.hid (HV.out.on b2)
  have HBW2 := Lib.hid (HBW.out.trans (b2.mono HBW.out.size))
  have HMAY := Lib.hid (May_any (HV.out.on b2))
  have hwl2 := (Array.getElem?_eq_some_iff.1 hx2).1
  clear hr b2 hx2
  go_wp2_with fail
  refine HMAY.out.mono ?_
  rintro e W3 ⟨z, rfl, hz, b3⟩
  obtain rfl : z = 0 := by
    rcases hz with h | h
    · exact h.1
    · exact absurd hl0_may h.2
  have hx3 := (b3.block (b + 8) hwl2).trans HX2.out
  replace x0 := Lib.cell_of_heap hx3 0
  replace x1 := Lib.cell_of_heap hx3 1
  replace x2 := Lib.cell_of_heap hx3 2
  replace x3 := Lib.cell_of_heap hx3 3
  simp only [List.getElem?_toArray, List.getElem?_cons_zero, List.getElem?_cons_succ] at x0 x1 x2 x3
  have hal := (Below.refl _ W3).alloc (Nat.le_refl _) (.cells #[.int .i64 0, .slice none 0 0] 38)
  have HV3 := HV2.out.on b3
  have hac := accepts_any (HV3.on hal) hl0_ok (by decide) (l := [.mk 0 []]) (kc := 1) one_mem ⟨Nat.le_refl _, by decide⟩
  rw [hl0_one] at hac
  have HAC := Lib.hid hac
  have HB3 := Lib.hid (HBW2.out.trans (b3.mono HBW2.out.size))
  have HB4 := Lib.hid ((HBW2.out.trans (b3.mono HBW2.out.size)).trans (hal.mono (HBW2.out.trans (b3.mono HBW2.out.size)).size))
  clear hz b3 hx3 hal HV3 hac
  go_wp2_with fail
  refine HAC.out.mono ?_
  rintro e W5 ⟨rfl, b5⟩
  have HB5 := Lib.hid (HB4.out.trans (b5.mono HB4.out.size))
  have HWT := Lib.hid (weight_any [.mk 0 []] (W5.alloc (.cells #[.int .i64 0, .slice none 0 0] 38)) (some ⟨W5.heap.size, 0, none⟩) 1 one_mem (by decide))
  clear b5 x0 x1 x2 x3
  go_wp2_with fail
  refine HWT.out.mono ?_
  rintro e W6 ⟨rfl, b6⟩
  have HB6 := Lib.hid ((HB5.out.alloc HB5.out.size (.cells #[.int .i64 0, .slice none 0 0] 38)).trans (b6.mono (Nat.le_trans HB5.out.size (by rw [World.size_alloc]; omega))))
  have hw1 : wtTs [.mk 0 []] = 1 := rfl
  rw [hw1]
  clear b6 hw1
  go_wp2
  go_ret
  exact ⟨rfl, HB6.out⟩
end Go.Proofs.Ytbipdnnalhdoaaa
