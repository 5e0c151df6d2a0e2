/- compile.within: dead, calm, texts, lacks, ends, at what goes through the trees outside of all. compile.within.next, outside of all. compile.within: ends at its last state, accepts. -/
import Derived.Test.YtnkelhmjkmeilaaGreatDoorT43
section
namespace Go.Proofs.YtnkelhmjkmeilaaGreatDoor.H
open Go.RowKit
attribute [local go_sem ↓] Go.wp_at_zero Go.wp_at_succ
section
variable {w : World} {T : Addr} {U : Option Addr} {cT cU g fa gR gS : Nat}
set_option maxHeartbeats 1000000 in
set_option maxRecDepth 100000 in
theorem dead_eq : Calls Tryz.prog 116 #[wiV T cT U cU g fa gR gS] w fun e w' => e = .returned (.int .i64 3) ∧ w' = w.alloc (.cells (wiCs T cT U cU g fa gR gS) 206) := by
  go_enter Tryz.func116, Tryz.ntmps116
  go_wp2
  go_ret
  exact ⟨rfl, rfl⟩
set_option maxHeartbeats 1000000 in
set_option maxRecDepth 100000 in
theorem calm_eq : Calls Tryz.prog 163 #[wiV T cT U cU g fa gR gS] w fun e w' => e = .returned (.int .i64 1) ∧ w' = w.alloc (.cells (wiCs T cT U cU g fa gR gS) 206) := by
  go_enter Tryz.func163, Tryz.ntmps163
  go_wp2
  go_ret
  exact ⟨rfl, rfl⟩
set_option maxHeartbeats 1000000 in
set_option maxRecDepth 100000 in
theorem texts_eq : Calls Tryz.prog 166 #[wiV T cT U cU g fa gR gS] w fun e w' => e = .returned (.int .i64 2) ∧ w' = w.alloc (.cells (wiCs T cT U cU g fa gR gS) 206) := by
  go_enter Tryz.func166, Tryz.ntmps166
  go_wp2
  go_ret
  exact ⟨rfl, rfl⟩
theorem IndexFunc_none (f : Value) : Calls Tryz.prog 214 #[.slice none 0 0, f] w fun e w' => e = .returned (.int .i64 (-1)) ∧ w' = w := by
  go_enter Tryz.func214, Tryz.ntmps214
  go_wp2_with fail
  refine wp_loop_rounds 1 ?_
  rw [rounds_succ]
  go_wp2
  go_ret
  exact ⟨rfl, rfl⟩
theorem ContainsFunc_none (f : Value) : Calls Tryz.prog 189 #[.slice none 0 0, f] w fun e w' => e = .returned (.bool false) ∧ w' = w := by
  go_enter Tryz.func189, Tryz.ntmps189
  go_wp2_with fail
  refine (IndexFunc_none _).mono ?_
  rintro e w' ⟨rfl, rfl⟩
  go_wp2
  go_ret
  exact ⟨rfl, rfl⟩
set_option maxHeartbeats 1000000 in
set_option maxRecDepth 100000 in
theorem lacks_eq (a b : Int) : Calls Tryz.prog 164 #[wiV T cT U cU g fa gR gS, .int .i64 a, .int .i64 b] w fun e w' => e = .returned (.bool false) ∧ w' = ((w.alloc (.cells (wiCs T cT U cU g fa gR gS) 206)).alloc (.cells #[.int .i64 a] 3)).alloc (.cells #[.int .i64 b] 3) := by
  go_enter Tryz.func164, Tryz.ntmps164
  go_wp2_with fail
  refine (ContainsFunc_none _).mono ?_
  rintro e w' ⟨rfl, rfl⟩
  go_wp2
  go_ret
  exact ⟨rfl, rfl⟩
set_option maxHeartbeats 8000000 in
set_option maxRecDepth 100000 in
theorem ends_0 : Calls Tryz.prog 165 #[wiV T cT U cU g fa gR gS, .int .i64 0] w fun e w' => e = .returned (.bool true) ∧ Below w.heap.size w w' := by
  go_enter Tryz.func165, Tryz.ntmps165
  go_upto_region 1 with fail
  go_region_with (first
    | (go_at_call 116; refine dead_eq.mono ?_; rintro e WA ⟨rfl, rfl⟩)
    | (go_at_call 163; refine calm_eq.mono ?_; rintro e WA ⟨rfl, rfl⟩)
    | (go_at_call 164; refine (lacks_eq _ _).mono ?_; rintro e WA ⟨rfl, rfl⟩))
  all_goals
    go_wp2
    go_ret
    exact ⟨rfl, by (repeat (first | exact Below.refl _ _ | with_reducible refine Below.drew ?_ | with_reducible refine bal ?_ _))⟩
set_option maxHeartbeats 8000000 in
set_option maxRecDepth 100000 in
theorem ends_1 : Calls Tryz.prog 165 #[wiV T cT U cU g fa gR gS, .int .i64 1] w fun e w' => e = .returned (.bool true) ∧ Below w.heap.size w w' := by
  go_enter Tryz.func165, Tryz.ntmps165
  go_upto_region 1 with fail
  first
    | (go_region_with (first
        | (go_at_call 116; refine dead_eq.mono ?_; rintro e WA ⟨rfl, rfl⟩)
        | (go_at_call 163; refine calm_eq.mono ?_; rintro e WA ⟨rfl, rfl⟩)
        | (go_at_call 164; refine (lacks_eq _ _).mono ?_; rintro e WA ⟨rfl, rfl⟩)))
    | fail
  all_goals
    go_wp2
    go_ret
    exact ⟨rfl, by (repeat (first | exact Below.refl _ _ | with_reducible refine Below.drew ?_ | with_reducible refine bal ?_ _))⟩
set_option maxHeartbeats 8000000 in
set_option maxRecDepth 100000 in
theorem ends_2 : Calls Tryz.prog 165 #[wiV T cT U cU g fa gR gS, .int .i64 2] w fun e w' => e = .returned (.bool true) ∧ Below w.heap.size w w' := by
  go_enter Tryz.func165, Tryz.ntmps165
  go_upto_region 1 with fail
  first
    | (go_region_with (first
        | (go_at_call 116; refine dead_eq.mono ?_; rintro e WA ⟨rfl, rfl⟩)
        | (go_at_call 163; refine calm_eq.mono ?_; rintro e WA ⟨rfl, rfl⟩)
        | (go_at_call 164; refine (lacks_eq _ _).mono ?_; rintro e WA ⟨rfl, rfl⟩)))
    | fail
  all_goals
    go_wp2
    go_ret
    exact ⟨rfl, by (repeat (first | exact Below.refl _ _ | with_reducible refine Below.drew ?_ | with_reducible refine bal ?_ _))⟩
end
end Go.Proofs.YtnkelhmjkmeilaaGreatDoor.H
end
section
namespace Go.Proofs.YtnkelhmjkmeilaaGreatDoor.H
open Go.RowKit
attribute [local go_sem ↓] Go.wp_at_zero Go.wp_at_succ
section
variable {w : World} {T : Addr} {U : Option Addr} {cT cU g fa gR gS : Nat}
theorem ends_lt (s : Nat) (hs : s < 3) : Calls Tryz.prog 165 #[wiV T cT U cU g fa gR gS, .int .i64 (s : Int)] w fun e w' => e = .returned (.bool true) ∧ Below w.heap.size w w' := by
  obtain rfl | rfl | rfl : s = 0 ∨ s = 1 ∨ s = 2 := by omega
  · exact ends_0
  · exact ends_1
  · exact ends_2
set_option maxHeartbeats 4000000 in
set_option maxRecDepth 100000 in
theorem next_out (s p : Nat) (hs : s ≤ 3) (hp : p ≤ 2) (h : s = 3 ∨ p = 2) : Calls Tryz.prog 117 #[wiV T cT U cU g fa gR gS, .int .i64 (s : Int), .int .i64 (p : Int)] w fun e w' => e = .returned (.int .i64 3) ∧ Below w.heap.size w w' := by
  have b1 := (Below.refl _ w).alloc (Nat.le_refl _) (.cells (wiCs T cT U cU g fa gR gS) 206)
  have b2 := bal (bal b1 (.cells (wiCs T cT U cU g fa gR gS) 206)) (.cells (wiCs T cT U cU g fa gR gS) 206)
  have HD := fun w => Lib.hid (dead_eq (w := w) (T := T) (U := U) (cT := cT) (cU := cU) (g := g) (fa := fa) (gR := gR) (gS := gS))
  unfold wiCs at *
  by_cases h3 : s = 3
  · subst h3
    go_enter Tryz.func117, Tryz.ntmps117
    go_wp2_with fail
    refine (HD _).out.mono ?_
    rintro e w' ⟨rfl, rfl⟩
    go_wp2_with fail
    refine (HD _).out.mono ?_
    rintro e w' ⟨rfl, rfl⟩
    go_wp2
    go_ret
    exact ⟨rfl, b2⟩
  · obtain rfl := h.resolve_left h3
    have hs3 : (s : Int) < 3 := by omega
    go_enter Tryz.func117, Tryz.ntmps117
    go_wp2_with fail
    refine (HD _).out.mono ?_
    rintro e w' ⟨rfl, rfl⟩
    go_wp2_with fail
    refine (HD _).out.mono ?_
    rintro e w' ⟨rfl, rfl⟩
    go_wp2
    go_ret
    exact ⟨rfl, b2⟩
set_option maxHeartbeats 8000000 in
set_option maxRecDepth 100000 in
theorem next_1 (hL : LabsAt w g) (hS : w.heap[gS]? = some (.cells #[.bool true, .bool false] 4 (0, 0))) (s : Nat) (hs : s < 3) : Calls Tryz.prog 117 #[wiV T cT U cU g fa gR gS, .int .i64 (s : Int), .int .i64 1] w fun e w' => e = .returned (.int .i64 (3)) ∧ Below w.heap.size w w' := by
  have b1 := (Below.refl _ w).alloc (Nat.le_refl _) (.cells (wiCs T cT U cU g fa gR gS) 206)
  have f1 := heap_alloc_new w (.cells (wiCs T cT U cU g fa gR gS) 206)
  have HD := fun w => Lib.hid (dead_eq (w := w) (T := T) (U := U) (cT := cT) (cU := cU) (g := g) (fa := fa) (gR := gR) (gS := gS))
  have HX := fun w => Lib.hid (texts_eq (w := w) (T := T) (U := U) (cT := cT) (cU := cU) (g := g) (fa := fa) (gR := gR) (gS := gS))
  have b2 := bal b1 (.cells (wiCs T cT U cU g fa gR gS) 206)
  have f2 := (Below.heap_alloc (w.alloc (.cells (wiCs T cT U cU g fa gR gS) 206)) (.cells (wiCs T cT U cU g fa gR gS) 206) w.heap.size (Array.getElem?_eq_some_iff.1 f1).1).trans f1
  have hL2 := hL.on b2
  have hS2 := (b2.block _ (Array.getElem?_eq_some_iff.1 hS).1).trans hS
  unfold wiCs at *
  have hs3 : (s : Int) < 3 := by omega
  go_enter Tryz.func117, Tryz.ntmps117
  go_wp2_with fail
  refine (HD _).out.mono ?_
  rintro e w' ⟨rfl, rfl⟩
  go_upto_region 3 with fail
  generalize (w.alloc (.cells #[.slice (some T) 1 cT, .slice none 0 0, .slice U 0 cU, .slice (some ⟨g, 0, none⟩) 2 2, .func (.func fa) #[] #[], .int .i64 0, .slice none 0 0, .slice (some ⟨gR, 0, none⟩) 2 2, .slice (some ⟨gS, 0, none⟩) 2 2, .slice none 0 0] 206)).alloc (.cells #[.slice (some T) 1 cT, .slice none 0 0, .slice U 0 cU, .slice (some ⟨g, 0, none⟩) 2 2, .func (.func fa) #[] #[], .int .i64 0, .slice none 0 0, .slice (some ⟨gR, 0, none⟩) 2 2, .slice (some ⟨gS, 0, none⟩) 2 2, .slice none 0 0] 206) = W2 at *
  have hwl := (Array.getElem?_eq_some_iff.1 f2).1
  have hgl := (Array.getElem?_eq_some_iff.1 hL2).1
  have hsl := (Array.getElem?_eq_some_iff.1 hS2).1
  have z0 := Lib.cell_of_heap hL2 7
  have z1 := Lib.cell_of_heap hL2 8
  have z2 := Lib.cell_of_heap hL2 9
  have z3 := Lib.cell_of_heap hL2 10
  have z4 := Lib.cell_of_heap hL2 11
  have z5 := Lib.cell_of_heap hL2 12
  have z6 := Lib.cell_of_heap hL2 13
  have x3 := Lib.cell_of_heap f2 3
  simp only [labCs, List.getElem?_toArray, List.getElem?_cons_zero, List.getElem?_cons_succ] at z0 z1 z2 z3 z4 z5 z6 x3
  have b3 := (Below.refl _ W2).alloc (Nat.le_refl _) (.cells #[.int .i64 2, .string ⟨#[]⟩, .string ⟨#[]⟩, .bool false, .string ⟨#[]⟩, .bool false, .bool false] 141)
  have f3 := heap_alloc_new W2 (.cells #[.int .i64 2, .string ⟨#[]⟩, .string ⟨#[]⟩, .bool false, .string ⟨#[]⟩, .bool false, .bool false] 141)
  have h3l := (Array.getElem?_eq_some_iff.1 f3).1
  go_upto_region 4 with fail
  generalize W2.alloc (.cells #[.int .i64 2, .string ⟨#[]⟩, .string ⟨#[]⟩, .bool false, .string ⟨#[]⟩, .bool false, .bool false] 141) = W3 at *
  have f23 := (b3.block _ hwl).trans f2
  have u0 := Lib.cell_of_heap f23 0
  have u1 := Lib.cell_of_heap f23 1
  have u2 := Lib.cell_of_heap f23 2
  have u3 := Lib.cell_of_heap f23 3
  have u4 := Lib.cell_of_heap f23 4
  have u5 := Lib.cell_of_heap f23 5
  have u6 := Lib.cell_of_heap f23 6
  have u7 := Lib.cell_of_heap f23 7
  have u8 := Lib.cell_of_heap f23 8
  have u9 := Lib.cell_of_heap f23 9
  have y0 := Lib.cell_of_heap f3 0
  simp only [List.getElem?_toArray, List.getElem?_cons_zero, List.getElem?_cons_succ] at u0 u1 u2 u3 u4 u5 u6 u7 u8 u9 y0
  have HE := Lib.hid (ends_lt (w := W3) (T := T) (U := U) (cT := cT) (cU := cU) (g := g) (fa := fa) (gR := gR) (gS := gS) s hs)
  have HB3 := Lib.hid (b2.trans (b3.mono b2.size))
  have HF := Lib.hid (And.intro f23 (And.intro f3 ((b3.block _ hsl).trans hS2)))
  have b3s := b3.size
  clear hL hS b1 f1 b2 f2 hL2 hS2 z0 z1 z2 z3 z4 z5 z6 x3 b3 f3 f23
  go_wp2_with fail
  refine HE.out.mono ?_
  rintro e W4 ⟨rfl, b4⟩
  clear u0 u1 u2 u3 u4 u5 u6 u7 u8 u9 y0
  have g1 := (b4.block _ (by omega)).trans HF.out.1
  have g2 := (b4.block _ h3l).trans HF.out.2.1
  have g3 := (b4.block _ (by omega)).trans HF.out.2.2
  have u0 := Lib.cell_of_heap g1 0
  have u1 := Lib.cell_of_heap g1 1
  have u2 := Lib.cell_of_heap g1 2
  have u3 := Lib.cell_of_heap g1 3
  have u4 := Lib.cell_of_heap g1 4
  have u5 := Lib.cell_of_heap g1 5
  have u6 := Lib.cell_of_heap g1 6
  have u7 := Lib.cell_of_heap g1 7
  have u8 := Lib.cell_of_heap g1 8
  have u9 := Lib.cell_of_heap g1 9
  have y0 := Lib.cell_of_heap g2 0
  have k0 := Lib.cell_of_heap g3 1
  simp only [List.getElem?_toArray, List.getElem?_cons_zero, List.getElem?_cons_succ] at u0 u1 u2 u3 u4 u5 u6 u7 u8 u9 y0 k0
  have HB4 := Lib.hid (HB3.out.trans (b4.mono HB3.out.size))
  have hw4 : w.heap.size < W4.heap.size := (Array.getElem?_eq_some_iff.1 g1).1
  clear g1 g2 g3 b4
  go_wp2_with fail
  refine (HD _).out.mono ?_
  rintro e w' ⟨rfl, rfl⟩
  go_wp2
  go_ret
  exact ⟨rfl, bal HB4.out _⟩
set_option maxHeartbeats 8000000 in
set_option maxRecDepth 100000 in
theorem next_0 (hL : LabsAt w g) (hS : w.heap[gS]? = some (.cells #[.bool true, .bool false] 4 (0, 0))) (s : Nat) (hs : s < 3) : Calls Tryz.prog 117 #[wiV T cT U cU g fa gR gS, .int .i64 (s : Int), .int .i64 0] w fun e w' => e = .returned (.int .i64 (if s < 2 then 2 else 3)) ∧ Below w.heap.size w w' := by
  have b1 := (Below.refl _ w).alloc (Nat.le_refl _) (.cells (wiCs T cT U cU g fa gR gS) 206)
  have f1 := heap_alloc_new w (.cells (wiCs T cT U cU g fa gR gS) 206)
  have HD := fun w => Lib.hid (dead_eq (w := w) (T := T) (U := U) (cT := cT) (cU := cU) (g := g) (fa := fa) (gR := gR) (gS := gS))
  have HX := fun w => Lib.hid (texts_eq (w := w) (T := T) (U := U) (cT := cT) (cU := cU) (g := g) (fa := fa) (gR := gR) (gS := gS))
  have b2 := bal b1 (.cells (wiCs T cT U cU g fa gR gS) 206)
  have f2 := (Below.heap_alloc (w.alloc (.cells (wiCs T cT U cU g fa gR gS) 206)) (.cells (wiCs T cT U cU g fa gR gS) 206) w.heap.size (Array.getElem?_eq_some_iff.1 f1).1).trans f1
  have hL2 := hL.on b2
  have hS2 := (b2.block _ (Array.getElem?_eq_some_iff.1 hS).1).trans hS
  unfold wiCs at *
  have hs3 : (s : Int) < 3 := by omega
  go_enter Tryz.func117, Tryz.ntmps117
  go_wp2_with fail
  refine (HD _).out.mono ?_
  rintro e w' ⟨rfl, rfl⟩
  go_upto_region 3 with fail
  generalize (w.alloc (.cells #[.slice (some T) 1 cT, .slice none 0 0, .slice U 0 cU, .slice (some ⟨g, 0, none⟩) 2 2, .func (.func fa) #[] #[], .int .i64 0, .slice none 0 0, .slice (some ⟨gR, 0, none⟩) 2 2, .slice (some ⟨gS, 0, none⟩) 2 2, .slice none 0 0] 206)).alloc (.cells #[.slice (some T) 1 cT, .slice none 0 0, .slice U 0 cU, .slice (some ⟨g, 0, none⟩) 2 2, .func (.func fa) #[] #[], .int .i64 0, .slice none 0 0, .slice (some ⟨gR, 0, none⟩) 2 2, .slice (some ⟨gS, 0, none⟩) 2 2, .slice none 0 0] 206) = W2 at *
  have hwl := (Array.getElem?_eq_some_iff.1 f2).1
  have hgl := (Array.getElem?_eq_some_iff.1 hL2).1
  have hsl := (Array.getElem?_eq_some_iff.1 hS2).1
  have z0 := Lib.cell_of_heap hL2 0
  have z1 := Lib.cell_of_heap hL2 1
  have z2 := Lib.cell_of_heap hL2 2
  have z3 := Lib.cell_of_heap hL2 3
  have z4 := Lib.cell_of_heap hL2 4
  have z5 := Lib.cell_of_heap hL2 5
  have z6 := Lib.cell_of_heap hL2 6
  have x3 := Lib.cell_of_heap f2 3
  simp only [labCs, List.getElem?_toArray, List.getElem?_cons_zero, List.getElem?_cons_succ] at z0 z1 z2 z3 z4 z5 z6 x3
  have b3 := (Below.refl _ W2).alloc (Nat.le_refl _) (.cells #[.int .i64 1, .string ⟨#[]⟩, .string ⟨#[]⟩, .bool false, .string ⟨#[]⟩, .bool false, .bool false] 141)
  have f3 := heap_alloc_new W2 (.cells #[.int .i64 1, .string ⟨#[]⟩, .string ⟨#[]⟩, .bool false, .string ⟨#[]⟩, .bool false, .bool false] 141)
  have h3l := (Array.getElem?_eq_some_iff.1 f3).1
  go_upto_region 4 with fail
  generalize W2.alloc (.cells #[.int .i64 1, .string ⟨#[]⟩, .string ⟨#[]⟩, .bool false, .string ⟨#[]⟩, .bool false, .bool false] 141) = W3 at *
  have f23 := (b3.block _ hwl).trans f2
  have u0 := Lib.cell_of_heap f23 0
  have u1 := Lib.cell_of_heap f23 1
  have u2 := Lib.cell_of_heap f23 2
  have u3 := Lib.cell_of_heap f23 3
  have u4 := Lib.cell_of_heap f23 4
  have u5 := Lib.cell_of_heap f23 5
  have u6 := Lib.cell_of_heap f23 6
  have u7 := Lib.cell_of_heap f23 7
  have u8 := Lib.cell_of_heap f23 8
  have u9 := Lib.cell_of_heap f23 9
  have y0 := Lib.cell_of_heap f3 0
  simp only [List.getElem?_toArray, List.getElem?_cons_zero, List.getElem?_cons_succ] at u0 u1 u2 u3 u4 u5 u6 u7 u8 u9 y0
  have HE := Lib.hid (ends_lt (w := W3) (T := T) (U := U) (cT := cT) (cU := cU) (g := g) (fa := fa) (gR := gR) (gS := gS) s hs)
  have HB3 := Lib.hid (b2.trans (b3.mono b2.size))
  have HF := Lib.hid (And.intro f23 (And.intro f3 ((b3.block _ hsl).trans hS2)))
  have b3s := b3.size
  clear hL hS b1 f1 b2 f2 hL2 hS2 z0 z1 z2 z3 z4 z5 z6 x3 b3 f3 f23
  go_wp2_with fail
  refine HE.out.mono ?_
  rintro e W4 ⟨rfl, b4⟩
  clear u0 u1 u2 u3 u4 u5 u6 u7 u8 u9 y0
  have g1 := (b4.block _ (by omega)).trans HF.out.1
  have g2 := (b4.block _ h3l).trans HF.out.2.1
  have g3 := (b4.block _ (by omega)).trans HF.out.2.2
  have u0 := Lib.cell_of_heap g1 0
  have u1 := Lib.cell_of_heap g1 1
  have u2 := Lib.cell_of_heap g1 2
  have u3 := Lib.cell_of_heap g1 3
  have u4 := Lib.cell_of_heap g1 4
  have u5 := Lib.cell_of_heap g1 5
  have u6 := Lib.cell_of_heap g1 6
  have u7 := Lib.cell_of_heap g1 7
  have u8 := Lib.cell_of_heap g1 8
  have u9 := Lib.cell_of_heap g1 9
  have y0 := Lib.cell_of_heap g2 0
  have k0 := Lib.cell_of_heap g3 0
  simp only [List.getElem?_toArray, List.getElem?_cons_zero, List.getElem?_cons_succ] at u0 u1 u2 u3 u4 u5 u6 u7 u8 u9 y0 k0
  have HB4 := Lib.hid (HB3.out.trans (b4.mono HB3.out.size))
  have hw4 : w.heap.size < W4.heap.size := (Array.getElem?_eq_some_iff.1 g1).1
  have b5 := (Below.refl _ W4).alloc (Nat.le_refl _) (.cells (wiCs T cT U cU g fa gR gS) 206)
  unfold wiCs at b5
  have g15 := (b5.block _ (show w.heap.size < W4.heap.size from hw4)).trans g1
  clear g2 g3 b4
  go_wp2_with fail
  refine (HX _).out.mono ?_
  rintro e w' ⟨rfl, rfl⟩
  generalize W4.alloc (.cells #[.slice (some T) 1 cT, .slice none 0 0, .slice U 0 cU, .slice (some ⟨g, 0, none⟩) 2 2, .func (.func fa) #[] #[], .int .i64 0, .slice none 0 0, .slice (some ⟨gR, 0, none⟩) 2 2, .slice (some ⟨gS, 0, none⟩) 2 2, .slice none 0 0] 206) = W5 at *
  clear u0 u1 u2 u3 u4 u5 u6 u7 u8 u9
  have u0 := Lib.cell_of_heap g15 0
  have u1 := Lib.cell_of_heap g15 1
  have u2 := Lib.cell_of_heap g15 2
  have u3 := Lib.cell_of_heap g15 3
  have u4 := Lib.cell_of_heap g15 4
  have u5 := Lib.cell_of_heap g15 5
  have u6 := Lib.cell_of_heap g15 6
  have u7 := Lib.cell_of_heap g15 7
  have u8 := Lib.cell_of_heap g15 8
  have u9 := Lib.cell_of_heap g15 9
  simp only [List.getElem?_toArray, List.getElem?_cons_zero, List.getElem?_cons_succ] at u0 u1 u2 u3 u4 u5 u6 u7 u8 u9
  have HB5 := Lib.hid (HB4.out.trans (b5.mono HB4.out.size))
  clear b5 g15 g1 y0 k0
  by_cases h2 : s < 2
  · have he : ((s : Int) == 2) = false := by rw [beq_eq_false_iff_ne]; omega
    go_wp2_with fail
    refine (HX _).out.mono ?_
    rintro e w' ⟨rfl, rfl⟩
    go_wp2
    go_ret
    exact ⟨by first | rfl | simp [h2], bal HB5.out _⟩
  · have he : ((s : Int) == 2) = true := by rw [beq_iff_eq]; omega
    go_wp2_with fail
    refine (HD _).out.mono ?_
    rintro e w' ⟨rfl, rfl⟩
    go_wp2
    go_ret
    exact ⟨by first | rfl | simp [h2], bal HB5.out _⟩
end
end Go.Proofs.YtnkelhmjkmeilaaGreatDoor.H
end
section
namespace Go.Proofs.YtnkelhmjkmeilaaGreatDoor.H
open Go.RowKit
attribute [local go_sem ↓] Go.wp_at_zero Go.wp_at_succ
section
variable {w : World} {T : Addr} {U : Option Addr} {cT cU g fa gR gS : Nat}
set_option maxHeartbeats 8000000 in
set_option maxRecDepth 100000 in
theorem ends_3 : Calls Tryz.prog 165 #[wiV T cT U cU g fa gR gS, .int .i64 3] w fun e w' => e = .returned (.bool false) ∧ Below w.heap.size w w' := by
  go_enter Tryz.func165, Tryz.ntmps165
  go_upto_region 1 with fail
  refine wp_region_any (by kernel_rfl) ?_
  try (change wpAny _ _ _ _ _ _ _ (World.drew _))
  refine wpAny_take (i := 0) (v := ?_) rfl (by kernel_rfl) (by kernel_rfl) (by kernel_rfl) (fun _ _ _ h => h) (Or.inl ⟨by rfl, ?_⟩) ?_
  rotate_left
  · (intro w; go_simp; try with_reducible rfl)
  simp only [Act.put, List.getElem_toArray, List.getElem_cons_zero, List.setIfInBounds_toArray, List.set_cons_zero, List.set_cons_succ]
  refine wpAny_ready (rs := [1]) (by kernel_rfl) (by simp) ?_
  refine AllReady.cons rfl (fun K hK => ?_) AllReady.nil
  go_simp
  refine hK _ _ ?_
  clear hK K
  refine wpAny_ready (rs := [2]) (by kernel_rfl) (by simp) ?_
  refine AllReady.cons rfl (fun K hK => ?_) AllReady.nil
  go_simp
  go_wp2_with (go_at_call 116; refine dead_eq.mono ?_; rintro e WA ⟨rfl, rfl⟩)
  try (refine hK _ _ ?_; clear hK K)
  refine wpAny_take (i := 3) (v := ?_) rfl (by kernel_rfl) (by kernel_rfl) (by kernel_rfl) (fun _ _ _ h => h) (Or.inl ⟨by rfl, ?_⟩) ?_
  rotate_left
  · (intro w; go_simp; try with_reducible rfl)
  simp only [Act.put, List.getElem_toArray, List.getElem_cons_succ, List.getElem_cons_zero, List.setIfInBounds_toArray, List.set_cons_zero, List.set_cons_succ]
  refine wpAny_take (i := 4) (v := ?_) rfl (by kernel_rfl) (by kernel_rfl) (by kernel_rfl) (fun _ _ _ h => h) (Or.inl ⟨by rfl, ?_⟩) ?_
  rotate_left
  · (intro w; go_simp; try with_reducible rfl)
  simp only [Act.put, List.getElem_toArray, List.getElem_cons_succ, List.getElem_cons_zero, List.setIfInBounds_toArray, List.set_cons_zero, List.set_cons_succ]
  refine wpAny_take (i := 5) (v := undef) rfl (by kernel_rfl) (by kernel_rfl) (by kernel_rfl) (fun _ _ _ h => h) (Or.inr ⟨by rfl, rfl⟩) ?_
  simp only [Act.put, List.getElem_toArray, List.getElem_cons_succ, List.getElem_cons_zero, List.setIfInBounds_toArray, List.set_cons_zero, List.set_cons_succ]
  refine wpAny_take (i := 6) (v := undef) rfl (by kernel_rfl) (by kernel_rfl) (by kernel_rfl) (fun _ _ _ h => h) (Or.inr ⟨by rfl, rfl⟩) ?_
  simp only [Act.put, List.getElem_toArray, List.getElem_cons_succ, List.getElem_cons_zero, List.setIfInBounds_toArray, List.set_cons_zero, List.set_cons_succ]
  refine wpAny_take (i := 7) (v := undef) rfl (by kernel_rfl) (by kernel_rfl) (by kernel_rfl) (fun _ _ _ h => h) (Or.inr ⟨by rfl, rfl⟩) ?_
  simp only [Act.put, List.getElem_toArray, List.getElem_cons_succ, List.getElem_cons_zero, List.setIfInBounds_toArray, List.set_cons_zero, List.set_cons_succ]
  refine wpAny_take (i := 8) (v := undef) rfl (by kernel_rfl) (by kernel_rfl) (by kernel_rfl) (fun _ _ _ h => h) (Or.inr ⟨by rfl, rfl⟩) ?_
  simp only [Act.put, List.getElem_toArray, List.getElem_cons_succ, List.getElem_cons_zero, List.setIfInBounds_toArray, List.set_cons_zero, List.set_cons_succ]
  refine wpAny_take (i := 9) (v := undef) rfl (by kernel_rfl) (by kernel_rfl) (by kernel_rfl) (fun _ _ _ h => h) (Or.inr ⟨by rfl, rfl⟩) ?_
  simp only [Act.put, List.getElem_toArray, List.getElem_cons_succ, List.getElem_cons_zero, List.setIfInBounds_toArray, List.set_cons_zero, List.set_cons_succ]
  refine wpAny_take (i := 10) (v := undef) rfl (by kernel_rfl) (by kernel_rfl) (by kernel_rfl) (fun _ _ _ h => h) (Or.inr ⟨by rfl, rfl⟩) ?_
  simp only [Act.put, List.getElem_toArray, List.getElem_cons_succ, List.getElem_cons_zero, List.setIfInBounds_toArray, List.set_cons_zero, List.set_cons_succ]
  refine wpAny_take (i := 11) (v := undef) rfl (by kernel_rfl) (by kernel_rfl) (by kernel_rfl) (fun _ _ _ h => h) (Or.inr ⟨by rfl, rfl⟩) ?_
  simp only [Act.put, List.getElem_toArray, List.getElem_cons_succ, List.getElem_cons_zero, List.setIfInBounds_toArray, List.set_cons_zero, List.set_cons_succ]
  refine wpAny_take (i := 12) (v := undef) rfl (by kernel_rfl) (by kernel_rfl) (by kernel_rfl) (fun _ _ _ h => h) (Or.inr ⟨by rfl, rfl⟩) ?_
  simp only [Act.put, List.getElem_toArray, List.getElem_cons_succ, List.getElem_cons_zero, List.setIfInBounds_toArray, List.set_cons_zero, List.set_cons_succ]
  refine wpAny_take (i := 13) (v := undef) rfl (by kernel_rfl) (by kernel_rfl) (by kernel_rfl) (fun _ _ _ h => h) (Or.inr ⟨by rfl, rfl⟩) ?_
  simp only [Act.put, List.getElem_toArray, List.getElem_cons_succ, List.getElem_cons_zero, List.setIfInBounds_toArray, List.set_cons_zero, List.set_cons_succ]
  refine wpAny_take (i := 14) (v := undef) rfl (by kernel_rfl) (by kernel_rfl) (by kernel_rfl) (fun _ _ _ h => h) (Or.inr ⟨by rfl, rfl⟩) ?_
  simp only [Act.put, List.getElem_toArray, List.getElem_cons_succ, List.getElem_cons_zero, List.setIfInBounds_toArray, List.set_cons_zero, List.set_cons_succ]
  refine wpAny_take (i := 15) (v := undef) rfl (by kernel_rfl) (by kernel_rfl) (by kernel_rfl) (fun _ _ _ h => h) (Or.inr ⟨by rfl, rfl⟩) ?_
  simp only [Act.put, List.getElem_toArray, List.getElem_cons_succ, List.getElem_cons_zero, List.setIfInBounds_toArray, List.set_cons_zero, List.set_cons_succ]
  refine wpAny_take (i := 16) (v := undef) rfl (by kernel_rfl) (by kernel_rfl) (by kernel_rfl) (fun _ _ _ h => h) (Or.inr ⟨by rfl, rfl⟩) ?_
  simp only [Act.put, List.getElem_toArray, List.getElem_cons_succ, List.getElem_cons_zero, List.setIfInBounds_toArray, List.set_cons_zero, List.set_cons_succ]
  refine wpAny_take (i := 17) (v := undef) rfl (by kernel_rfl) (by kernel_rfl) (by kernel_rfl) (fun _ _ _ h => h) (Or.inr ⟨by rfl, rfl⟩) ?_
  simp only [Act.put, List.getElem_toArray, List.getElem_cons_succ, List.getElem_cons_zero, List.setIfInBounds_toArray, List.set_cons_zero, List.set_cons_succ]
  refine wpAny_take (i := 18) (v := ?_) rfl (by kernel_rfl) (by kernel_rfl) (by kernel_rfl) (fun _ _ _ h => h) (Or.inl ⟨by rfl, ?_⟩) ?_
  rotate_left
  · (intro w; go_simp; try with_reducible rfl)
  simp only [Act.put, List.getElem_toArray, List.getElem_cons_succ, List.getElem_cons_zero, List.setIfInBounds_toArray, List.set_cons_zero, List.set_cons_succ]
  refine wpAny_take (i := 19) (v := ?_) rfl (by kernel_rfl) (by kernel_rfl) (by kernel_rfl) (fun _ _ _ h => h) (Or.inl ⟨by rfl, ?_⟩) ?_
  rotate_left
  · (intro w; go_simp; try with_reducible rfl)
  simp only [Act.put, List.getElem_toArray, List.getElem_cons_succ, List.getElem_cons_zero, List.setIfInBounds_toArray, List.set_cons_zero, List.set_cons_succ]
  refine wpAny_done (by kernel_rfl) ?_ _
  all_goals
    go_wp2
    go_ret
    exact ⟨rfl, by (repeat (first | exact Below.refl _ _ | with_reducible refine Below.drew ?_ | with_reducible refine bal ?_ _))⟩
set_option maxHeartbeats 4000000 in
set_option maxRecDepth 100000 in
theorem accepts_lt (st : Nat) (h : st < 3) : Calls Tryz.prog 118 #[wiV T cT U cU g fa gR gS, .int .i64 (st : Int)] w fun e w' => e = .returned (.int .i64 1) ∧ Below w.heap.size w w' := by
  have b1 := (Below.refl _ w).alloc (Nat.le_refl _) (.cells (wiCs T cT U cU g fa gR gS) 206)
  have HE : Hid (Calls Tryz.prog 165 #[wiV T cT U cU g fa gR gS, .int .i64 (st : Int)] (w.alloc (.cells (wiCs T cT U cU g fa gR gS) 206)) fun e w' => e = .returned (.bool true) ∧ Below (w.alloc (.cells (wiCs T cT U cU g fa gR gS) 206)).heap.size (w.alloc (.cells (wiCs T cT U cU g fa gR gS) 206)) w') := Lib.hid (by
    obtain rfl | rfl | rfl : st = 0 ∨ st = 1 ∨ st = 2 := by omega
    · exact ends_0
    · exact ends_1
    · exact ends_2)
  unfold wiCs at *
  go_enter Tryz.func118, Tryz.ntmps118
  go_wp2_with fail
  refine HE.out.mono ?_
  rintro e w' ⟨rfl, b2⟩
  go_wp2
  go_ret
  exact ⟨rfl, bt b1 b2⟩
set_option maxHeartbeats 4000000 in
set_option maxRecDepth 100000 in
theorem accepts_3 : Calls Tryz.prog 118 #[wiV T cT U cU g fa gR gS, .int .i64 3] w fun e w' => e = .returned (.int .i64 0) ∧ Below w.heap.size w w' := by
  have b1 := (Below.refl _ w).alloc (Nat.le_refl _) (.cells (wiCs T cT U cU g fa gR gS) 206)
  have HE := Lib.hid (ends_3 (w := w.alloc (.cells (wiCs T cT U cU g fa gR gS) 206)) (T := T) (U := U) (cT := cT) (cU := cU) (g := g) (fa := fa) (gR := gR) (gS := gS))
  unfold wiCs at *
  go_enter Tryz.func118, Tryz.ntmps118
  go_wp2_with fail
  refine HE.out.mono ?_
  rintro e w' ⟨rfl, b2⟩
  go_wp2
  go_ret
  exact ⟨rfl, bt b1 b2⟩
end
end Go.Proofs.YtnkelhmjkmeilaaGreatDoor.H
end
