/- least: trees that a machine accepts, such as weigh the least. -/
import Derived.Test.YtbipdnnalhdoaaaHp
namespace Go.Proofs.Ytbipdnnalhdoaaa
open Go.RowKit Go.Maps Go.WideMaps
attribute [local go_sem ↓] Go.wp_at_zero Go.wp_at_succ

/-- trees that a machine accepts -/
def Acc (M : Mc) (l : List Tr) : Prop := ∃ s, thrT M M.L 0 l = some s ∧ M.out M.L s = 1
/-- what least tells -/
def LeastRet (M : Mc) (w : World) (e : Ending) (w' : World) : Prop := Below w.heap.size w w' ∧
  ((∃ A c l, e = .returned (.tuple #[.slice A l.length c, .bool true]) ∧ Cap l.length c ∧ SlP w' (fun b => w.heap.size ≤ b ∧ b < w'.heap.size) 2 A l.length (trsC l) ∧ Acc M l ∧ wtTs l ≤ 2147483647 ∧ ∀ l', Acc M l' → wtTs l ≤ wtTs l') ∨
    (e = .returned (.tuple #[.slice none 0 0, .bool false]) ∧ ∀ l', Acc M l' → 2147483647 < wtTs l'))
theorem acc_rd {M : Mc} {l : List Tr} (h : Acc M l) : ∃ s c, Rd' M (M.L + 1) M.L s c ∧ M.out M.L s = 1 ∧ c ≤ wtTs l := by
  obtain ⟨s, h1, h2⟩ := h
  obtain ⟨c, h3, h4⟩ := (Rd'.of_trees (M := M) (N := M.L + 1) (by omega)).2 l M.L 0 s 0 (by omega) (Rd'.start (by omega)) h1
  exact ⟨s, c, h3, h2, by omega⟩

set_option maxHeartbeats 2000000 in
set_option maxRecDepth 100000 in
theorem least_any {w : World} {T : TypeId} {v : Value} {M : Mc} (hM : MachAt w (.iface T v) M) (hO : M.Ok) (hOL : ∀ s, s < M.sz M.L → M.out M.L s ≤ 1000) : Calls Try.prog 36 #[.iface T v] w (LeastRet M w) := by
  have HM := Lib.hid hM
  obtain ⟨T', v', Fl, Fn, Fo, hmv, mL, mN, mO, cL, cN, cO, kL, kN, kO⟩ := hM
  injection hmv with e1 e2
  subst e1 e2
  have HL := Lib.hid (kL w (Below.refl _ w))
  have HO := Lib.hid hOL
  have hLb := hO.fewL
  clear mN mO cN cO kL kN kO hOL
  go_enter Try.func36, Try.ntmps36
  go_wp2_with fail
  refine HL.out.mono ?_
  rintro e W1 ⟨rfl, b1⟩
  clear mL cL
  have hw := IntWalk.i64_in ((M.L : Int) + 1) (by omega)
  have hbg := begin_any (w := W1) (N := M.L + 1) T v M (by omega) (by omega)
  rw [show (((M.L + 1 : Nat)) : Int) = (M.L : Int) + 1 from rfl] at hbg
  have HBG := Lib.hid hbg
  clear hbg
  go_wp2_with fail
  refine HBG.out.mono ?_
  rintro e W2 ⟨fb, mm, mf, own, f, rfl, hF, hI, hH, hq, hnd, b2⟩
  have hbw : Below w.heap.size w W2 := b1.trans (b2.mono b1.size)
  have hs1 := b1.size
  have hs2 := b2.size
  have HRUN := Lib.hid (run_any hF HM.out hO (Nat.le_refl _) hbw hs1 hI hH (by omega) (fun s k h => absurd h (hnd _ s k)) HO.out)
  have HLT := Lib.hid (fun q r (hq : own q = some r) => (hF.lt q r hq).1)
  have HBW := Lib.hid hbw
  clear hF hI hH hq hnd b1 b2 hbw hw
  go_wp2_with fail
  refine HRUN.out.mono ?_
  rintro e W3 ⟨own3, f3, hF3, hS3, hR3⟩
  have HB3 := Lib.hid (hS3.below HBW.out (by omega) fun q r hq => Nat.le_trans hs1 (HLT.out q r hq))
  have HF3 := Lib.hid hF3
  have hs3 := hS3.kb.size
  clear hF3 hS3
  rcases hR3 with ⟨s, fx, P, X, rfl, hI, hmr, hfn, hk, hsn, hso, hmin⟩ | ⟨cur, rfl, hI, hq, hnr⟩
  · have hP : Paths M f3 := (hI.paths hO (Nat.le_refl _)).same hmr.symm hfn.symm
    have hx := heap_alloc_new W3 (.cells #[.int .i64 (s.num : Int), .int .i64 (s.st : Int), .int .i64 (s.cost : Int), .int .i64 s.frm, .int .i64 s.tree] 72)
    have hB4 := (Below.refl _ W3).alloc (Nat.le_refl _) (.cells #[.int .i64 (s.num : Int), .int .i64 (s.st : Int), .int .i64 (s.cost : Int), .int .i64 s.frm, .int .i64 s.tree] 72)
    have HX := Lib.hid (And.intro hP (And.intro hk (And.intro hsn (And.intro hso hmin))))
    have HB4 := Lib.hid hB4
    have hF4 := HF3.out.below hB4 (Nat.le_refl _)
    have HF4 := Lib.hid hF4
    clear hP hk hsn hso hmin hI hmr hfn hB4 hF4
    go_upto_region 3 with fail
    generalize W3.alloc (.cells #[.int .i64 (s.num : Int), .int .i64 (s.st : Int), .int .i64 (s.cost : Int), .int .i64 s.frm, .int .i64 s.tree] 72) = W4 at *
    have x0 := Lib.cell_of_heap hx 0
    have x1 := Lib.cell_of_heap hx 1
    have x2 := Lib.cell_of_heap hx 2
    simp only [List.getElem?_toArray, List.getElem?_cons_zero, List.getElem?_cons_succ] at x0 x1 x2
    have hs4 := HB4.out.size
    have HB5 := Lib.hid (HB3.out.trans (HB4.out.mono HB3.out.size))
    clear hx
    by_cases hc : (s.cost : Int) ≤ 2147483647
    · have hc' : ¬ (2147483647 : Int) < (s.cost : Int) := by omega
      have HPATH := Lib.hid (path_any HX.out.1 hO 2147483648 (by omega) W4 s.num s.st s HF4.out HX.out.2.1 (by omega))
      go_wp2_with fail
      refine HPATH.out.mono ?_
      rintro e W5 ⟨A, c, l, rfl, t1, t2, t3, t4, t5⟩
      obtain ⟨_, _, h3, h4, h5⟩ := HX.out
      have HRET := Lib.hid (show LeastRet M w (.returned (.tuple #[.slice A l.length c, .bool true])) W5 from
        ⟨HB5.out.trans (t5.mono HB5.out.size), .inl ⟨A, c, l, rfl, t1, t2.more fun q hq => ⟨by have := HB5.out.size; omega, hq.2⟩, ⟨s.st, by rw [h3] at t3; exact t3, h4⟩, by omega, fun l' hl => by
          obtain ⟨s', c', g1, g2, g3⟩ := acc_rd hl
          have := h5 s' c' g1 g2
          omega⟩⟩)
      clear t1 t2 t3 t4 t5 h3 h4 h5
      go_wp2
      go_ret2
      exact HRET.out
    · have hc' : (2147483647 : Int) < (s.cost : Int) := by omega
      have HRET := Lib.hid (show LeastRet M w (.returned (.tuple #[.slice none 0 0, .bool false])) W4 from
        ⟨HB5.out, .inr ⟨rfl, fun l' hl => by
          obtain ⟨s', c', g1, g2, g3⟩ := acc_rd hl
          have := HX.out.2.2.2.2 s' c' g1 g2
          omega⟩⟩)
      go_wp2
      go_ret2
      exact HRET.out
  · have hB4 := (Below.refl _ W3).alloc (Nat.le_refl _) (.cells #[.int .i64 0, .int .i64 0, .int .i64 0, .int .i64 0, .int .i64 0] 72)
    have HRET := Lib.hid (show LeastRet M w (.returned (.tuple #[.slice none 0 0, .bool false])) (W3.alloc (.cells #[.int .i64 0, .int .i64 0, .int .i64 0, .int .i64 0, .int .i64 0] 72)) from
      ⟨HB3.out.trans (hB4.mono HB3.out.size), .inr ⟨rfl, fun l' hl => by
        obtain ⟨s', c', g1, g2, g3⟩ := acc_rd hl
        rcases hI.least hO (Nat.le_refl _) (c := topC) (fun x hx => by rw [hq] at hx; cases hx) (Nat.le_refl _) g1 with ⟨k, h9, _⟩ | h9
        · exact absurd g2 (hnr _ _ h9)
        · unfold topC at h9; omega⟩⟩)
    clear hI hq hnr hB4
    go_wp2
    go_ret2
    exact HRET.out
end Go.Proofs.Ytbipdnnalhdoaaa
