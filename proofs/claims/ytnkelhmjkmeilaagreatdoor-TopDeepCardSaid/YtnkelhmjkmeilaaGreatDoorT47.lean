/- sieve.line, Stand; strainertop.alive. -/
import Derived.Test.YtnkelhmjkmeilaaGreatDoorT46
section
namespace Go.Proofs.YtnkelhmjkmeilaaGreatDoor.H
open Go.RowKit
attribute [local go_sem ↓] Go.wp_at_zero Go.wp_at_succ
theorem Join_one {w : World} {q c : Nat} {s t : ByteArray} (h0 : w.cell? ⟨q, 0, none⟩ = some (.string s)) : Calls Tryz.prog 38 #[.slice (some ⟨q, 0, none⟩) 1 c, .string t] w fun e w' => e = .returned (.string s) ∧ w' = w := by
  go_enter Tryz.func38, Tryz.ntmps38
  go_wp2
  go_ret
  exact ⟨rfl, rfl⟩
theorem line_one {w : World} {q : Nat} (h0 : w.cell? ⟨q, 0, none⟩ = some (.string ⟨#[101, 113, 117, 105, 118, 97, 108, 101, 110, 116]⟩)) : Calls Tryz.prog 31 #[.slice (some ⟨q, 0, none⟩) 1 1] w fun e w' => e = .returned (.string ⟨#[101, 113, 117, 105, 118, 97, 108, 101, 110, 116, 10]⟩) ∧ w' = w := by
  have HJ := Lib.hid (Join_one (w := w) (q := q) (c := 1) (t := ⟨#[32]⟩) h0)
  go_enter Tryz.func31, Tryz.ntmps31
  go_wp2_with fail
  refine HJ.out.mono ?_
  rintro e W2 ⟨rfl, rfl⟩
  go_wp2
  go_ret
  exact ⟨rfl, rfl⟩
set_option maxHeartbeats 8000000 in
set_option maxRecDepth 100000 in
theorem Stand_two {w : World} : Calls Tryz.prog 19 #[.string ⟨alL.toArray⟩, .string ⟨alL.toArray⟩] w fun e w' => e = .returned (.string ⟨#[101, 113, 117, 105, 118, 97, 108, 101, 110, 116, 10]⟩) ∧ Below w.heap.size w w' := by
  have HR := Lib.hid (fun (W : World) (q : Nat) (h0 : W.cell? ⟨q, 0, none⟩ = some (.string ⟨alL.toArray⟩)) (h1 : W.cell? ⟨q, 1, none⟩ = some (.string ⟨alL.toArray⟩)) (hq : q < W.heap.size) => read_two h0 h1 hq)
  generalize (⟨alL.toArray⟩ : ByteArray) = al at *
  have b1 := (Below.refl _ w).alloc (Nat.le_refl _) (.cells #[.string al, .string al] 9)
  have hx1 := heap_alloc_new w (.cells #[.string al, .string al] 9)
  have hs1 := World.size_alloc w (.cells #[.string al, .string al] 9)
  have HC := Lib.hid (HR.out (w.alloc (.cells #[.string al, .string al] 9)) w.heap.size (by have x := Lib.cell_of_heap hx1 0; rw [x]; rfl) (by have x := Lib.cell_of_heap hx1 1; rw [x]; rfl) (by omega))
  have HB1 := Lib.hid b1
  clear b1 hx1 HR
  go_enter Tryz.func19, Tryz.ntmps19
  go_wp2_with fail
  refine HC.out.mono ?_
  rintro e W2 ⟨g, c, T, cT, U, cU, T', cT', U', cU', rfl, ho, hT, hT', b2⟩
  have b3 := (Below.refl _ W2).alloc (Nat.le_refl _) (.cells #[.int .i64 0, .int .i64 0, .int .i64 0] 68)
  have hx3 := heap_alloc_new W2 (.cells #[.int .i64 0, .int .i64 0, .int .i64 0] 68)
  go_upto_region 2 with fail
  generalize W2.alloc _ = W3 at *
  have x2 := Lib.cell_of_heap hx3 2
  simp only [List.getElem?_toArray, List.getElem?_cons_zero, List.getElem?_cons_succ] at x2
  go_upto_region 4 with fail
  have hc := (own_below ho b3 (Nat.le_refl _)).cells (g := g) rfl
  have c0 := hc 0 _ rfl
  have c1 := hc 1 _ rfl
  have c2 := hc 2 _ rfl
  have c3 := hc 3 _ rfl
  have c4 := hc 4 _ rfl
  have c5 := hc 5 _ rfl
  have d0 : W3.cell? ⟨g, 0, none⟩ = some (.slice (some T) 1 cT) := by simpa [Addr.add] using c0
  have d1 : W3.cell? ⟨g, 1, none⟩ = some (.slice none 0 0) := by simpa [Addr.add] using c1
  have d2 : W3.cell? ⟨g, 2, none⟩ = some (.slice U 0 cU) := by simpa [Addr.add] using c2
  have d3 : W3.cell? ⟨g, 3, none⟩ = some (.slice (some T') 1 cT') := by simpa [Addr.add] using c3
  have d4 : W3.cell? ⟨g, 4, none⟩ = some (.slice none 0 0) := by simpa [Addr.add] using c4
  have d5 : W3.cell? ⟨g, 5, none⟩ = some (.slice U' 0 cU') := by simpa [Addr.add] using c5
  have hgl := World.block_lt_of_cell? W3 ⟨g, 0, none⟩ d0
  have r0 := fun w' (hw' : Below W3.heap.size W3 w') => (hw'.cell (p := ⟨g, 0, none⟩) hgl).trans d0
  have r1 := fun w' (hw' : Below W3.heap.size W3 w') => (hw'.cell (p := ⟨g, 1, none⟩) hgl).trans d1
  have r2 := fun w' (hw' : Below W3.heap.size W3 w') => (hw'.cell (p := ⟨g, 2, none⟩) hgl).trans d2
  have r3 := fun w' (hw' : Below W3.heap.size W3 w') => (hw'.cell (p := ⟨g, 3, none⟩) hgl).trans d3
  have r4 := fun w' (hw' : Below W3.heap.size W3 w') => (hw'.cell (p := ⟨g, 4, none⟩) hgl).trans d4
  have r5 := fun w' (hw' : Below W3.heap.size W3 w') => (hw'.cell (p := ⟨g, 5, none⟩) hgl).trans d5
  have hT3 := (b3.cell (World.block_lt_of_cell? W2 T hT)).trans hT
  have hT3' := (b3.cell (World.block_lt_of_cell? W2 T' hT')).trans hT'
  have HD := Lib.hid (fun (w' : World) (hw' : Below W3.heap.size W3 w') => Diff_any (U := U) (U' := U') (cT := cT) (cU := cU) (cT' := cT') (cU' := cU') ((hw'.cell (World.block_lt_of_cell? W3 T hT3)).trans hT3) ((hw'.cell (World.block_lt_of_cell? W3 T' hT3')).trans hT3'))
  unfold polV at HD
  have HB3 := Lib.hid (HB1.out.trans (Below.mono (bt b2 b3) HB1.out.size))
  have hb0 : Below W3.heap.size W3 W3 := Below.refl _ _
  clear c0 c1 c2 c3 c4 c5 d0 d1 d2 d3 d4 d5 hc ho hT hT' hT3 hT3' b2 b3 x2 hx3
  go_cut [25] (fun s25 wx => s25 = .int .i64 1 ∧ Below W3.heap.size W3 wx)
  case first =>
    go_region_held3 (fun w' => Below W3.heap.size W3 w')
      (repeat (first | assumption | with_reducible refine Below.drew ?_ | with_reducible refine bt (a := W3) ?_ br))
      (first
        | (go_at_call 30; refine (HD.out _ (by assumption)).mono ?_; rintro e WV ⟨rfl, br⟩))
    all_goals
      go_wp2_with fail
      go_meet
      rename_i hH
      exact ⟨rfl, hH⟩
  case rest =>
    obtain ⟨rfl, b4⟩ := hcut
    rename World => W4
    have HW4 := Lib.hid (HB3.out.trans (b4.mono HB3.out.size))
    clear b4 r0 r1 r2 r3 r4 r5 HD hb0
    have b5 := (Below.refl _ W4).alloc (Nat.le_refl _) (.cells #[.string ⟨#[101, 113, 117, 105, 118, 97, 108, 101, 110, 116]⟩] 9)
    have hx5 := heap_alloc_new W4 (.cells #[.string ⟨#[101, 113, 117, 105, 118, 97, 108, 101, 110, 116]⟩] 9)
    have HLN := Lib.hid (line_one (w := W4.alloc (.cells #[.string ⟨#[101, 113, 117, 105, 118, 97, 108, 101, 110, 116]⟩] 9)) (q := W4.heap.size) (by have x := Lib.cell_of_heap hx5 0; rw [x]; rfl))
    have HB5 := Lib.hid (HW4.out.trans (b5.mono HW4.out.size))
    clear b5 hx5
    go_wp2_with fail
    refine HLN.out.mono ?_
    rintro e W6 ⟨rfl, rfl⟩
    go_wp2
    go_ret
    exact ⟨rfl, HB5.out⟩
set_option maxHeartbeats 4000000 in
theorem alive_yes {w : World} : Calls Tryz.prog 11 #[] w fun e w' => e = .returned (.bool true) ∧ Below w.heap.size w w' := by
  have HS := Lib.hid (show Calls Tryz.prog 19 #[.string ⟨#[115, 116, 114, 97, 105, 110, 101, 114, 32, 49, 10, 116, 111, 112, 32, 35, 116, 101, 120, 116, 10, 117, 110, 119, 114, 97, 112, 10]⟩, .string ⟨#[115, 116, 114, 97, 105, 110, 101, 114, 32, 49, 10, 116, 111, 112, 32, 35, 116, 101, 120, 116, 10, 117, 110, 119, 114, 97, 112, 10]⟩] w _ from Stand_two (w := w))
  go_enter Tryz.func11, Tryz.ntmps11
  go_wp2_with fail
  refine HS.out.mono ?_
  rintro e W2 ⟨rfl, b2⟩
  go_wp2
  go_ret
  exact ⟨rfl, b2⟩
end Go.Proofs.YtnkelhmjkmeilaaGreatDoor.H
end
