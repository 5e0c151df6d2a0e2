/- The walk of the law HedgeNot. -/
import Derived.Test.YtfiojodpcpkiaaaHG
import Derived.Test.YtfiojodpcpkiaaaHL
namespace Go.Proofs.Ytfiojodpcpkiaaa
open Go.RowKit Go.Maps Go.WideMaps
attribute [local go_sem ↓] Go.wp_at_zero Go.wp_at_succ

set_option maxHeartbeats 4000000 in
set_option maxRecDepth 100000 in
theorem HedgeNot_calls {w : World} {x : Int} {A B D : Option Addr} {c c' cD : Nat} {ls : List (List Int)} {l lt : List Int} (hx : IntB x) (HL : RowsIn w A ls) (_ : Cap ls.length c) (HR : SlP w (fun b => b < w.heap.size) 1 B l.length (l.map .i)) (hcl : Cap l.length c') (hb : ∀ x ∈ l, IntB x)
    (HT : SlP w (fun b => b < w.heap.size) 1 D lt.length (lt.map .i)) (hct : Cap lt.length cD) (hbt : ∀ x ∈ lt, IntB x) :
    Calls Try.prog 7 #[.int .i64 x, .slice A ls.length c, .slice B l.length c', .slice D lt.length cD] w fun e w' => e = .returned (.bool true) ∧ Below w.heap.size w w' := by
  have HG := Lib.hid (Good_any (c := c) (c' := c') hx HL HR hcl.len hb)
  have HTI := Lib.hid HT
  have HTB := Lib.hid (And.intro hct.len hbt)
  clear HL HR hb HT hct hbt
  go_enter Try.func7, Try.ntmps7
  go_wp2_with fail
  refine HG.out.mono ?_
  rintro e W1 ⟨h, A1, c1, B1, c2, C1, c3, rfl, hO, hL3, hV, b1⟩
  have HL3 := Lib.hid hL3
  have hL3i : h.labs.length ≤ 3 := by omega
  have hL0 : 0 < h.labs.length := by omega
  clear hL3
  have hV1 := hV.more (S' := fun b => b < W1.heap.size) fun b hb => hb.2
  have hal := (Below.refl _ W1).alloc (Nat.le_refl _) (.cells #[.int .i64 h.K, .slice A1 h.labs.length c1, .slice B1 h.root.nx.length c2, .slice C1 h.root.out.length c3] 28)
  have hxh := heap_alloc_new W1 (.cells #[.int .i64 h.K, .slice A1 h.labs.length c1, .slice B1 h.root.nx.length c2, .slice C1 h.root.out.length c3] 28)
  go_upto_region 2 with fail
  generalize W1.alloc (.cells #[.int .i64 h.K, .slice A1 h.labs.length c1, .slice B1 h.root.nx.length c2, .slice C1 h.root.out.length c3] 28) = W2 at *
  have hwl := (Array.getElem?_eq_some_iff.1 hxh).1
  have HV2 := Lib.hid (hV1.on hal)
  have HX2 := Lib.hid hxh
  have HB2 := Lib.hid (b1.trans (hal.mono b1.size))
  have HTr := Lib.hid (Trees_any (w := W2) (c := cD) ((SlP.keep HTI.out fun p hp => HB2.out.cell hp).more fun b hb => Nat.lt_of_lt_of_le hb HB2.out.size) HTB.out.1 HTB.out.2)
  clear hV hV1 hal hxh b1 HG
  go_wp2_with fail
  refine HTr.out.mono ?_
  rintro e W3 ⟨A3, c4, l3, xs3, rfl, ho3, hcs3, hlab3, hw3, b3⟩
  have hcp3 := own_cap ho3
  have HT3 := Lib.hid (show SlP W3 (fun b => b < W3.heap.size) 2 A3 l3.length (trsC l3) from ⟨xs3, (RdP.of_own ho3).more fun b hb => hb.2, hcs3.more fun b hb => hb.1.2⟩)
  have HB3 := Lib.hid (HB2.out.trans (b3.mono HB2.out.size))
  have HX3 := Lib.hid ((b3.block _ hwl).trans HX2.out)
  have HV3 := Lib.hid (HV2.out.on b3)
  have hwl3 := Nat.lt_of_lt_of_le hwl b3.size
  have hHDR := own_cap ho3
  clear ho3 hcs3 b3 HTr HX2 HV2
  have HLB := Lib.hid (show LabB h.labs.length l3 by rw [HL3.out]; exact hlab3)
  clear hlab3
  have x0 := Lib.cell_of_heap HX3.out 0
  have x1 := Lib.cell_of_heap HX3.out 1
  have x2 := Lib.cell_of_heap HX3.out 2
  have x3 := Lib.cell_of_heap HX3.out 3
  simp only [List.getElem?_toArray, List.getElem?_cons_zero, List.getElem?_cons_succ] at x0 x1 x2 x3
  have HNT := Lib.hid (Not_any HV3.out hO hL3i)
  go_wp2_with fail
  refine HNT.out.mono ?_
  rintro e W4 ⟨A4, c5, B4, c6, C4, c7, rfl, hV4, b4⟩
  have hO4 := notH_ok hO
  have hacc := notH_acc hO (by decide) HLB.out
  have hl4 : (notH h).labs.length = h.labs.length := rfl
  have hacc2 := notH_acc (l := l3) hO4 (by decide) (by rw [hl4]; exact HLB.out)
  generalize notH h = hn at *
  have HL4 := Lib.hid hl4
  have hV4' := hV4.more (S' := fun b => b < W4.heap.size) fun b hb => hb.2
  have hal := (Below.refl _ W4).alloc (Nat.le_refl _) (.cells #[.int .i64 hn.K, .slice A4 hn.labs.length c5, .slice B4 hn.root.nx.length c6, .slice C4 hn.root.out.length c7] 28)
  have hxn := heap_alloc_new W4 (.cells #[.int .i64 hn.K, .slice A4 hn.labs.length c5, .slice B4 hn.root.nx.length c6, .slice C4 hn.root.out.length c7] 28)
  have q1 : ((hn.labs.length : Int) == (h.labs.length : Int)) = true := by simp [hl4]
  have q2 : ((hn.labs.length : Int) != (h.labs.length : Int)) = false := by simp [hl4]
  have hln3 : hn.labs.length ≤ 3 := by omega
  clear hl4
  go_upto_region 4 with fail
  generalize W4.alloc (.cells #[.int .i64 hn.K, .slice A4 hn.labs.length c5, .slice B4 hn.root.nx.length c6, .slice C4 hn.root.out.length c7] 28) = W5 at *
  have hb35 : Below W3.heap.size W3 W5 := b4.trans (hal.mono b4.size)
  have HB5 := Lib.hid (HB3.out.trans (hb35.mono HB3.out.size))
  have HX5 := Lib.hid ((hb35.block _ hwl3).trans HX3.out)
  have HV5 := Lib.hid (HV3.out.on hb35)
  have HT5 := Lib.hid ((SlP.keep HT3.out fun p hp => hb35.cell hp).more fun b hb => Nat.lt_of_lt_of_le hb hb35.size)
  have HXN := Lib.hid hxn
  have HVN := Lib.hid (hV4'.on hal)
  have hwl5 := Nat.lt_of_lt_of_le hwl3 hb35.size
  have hwn5 := (Array.getElem?_eq_some_iff.1 hxn).1
  have HMY := Lib.hid (rmay_yes HVN.out hO4 (by decide))
  have x0 := Lib.cell_of_heap HXN.out 0
  have x1 := Lib.cell_of_heap HXN.out 1
  have x2 := Lib.cell_of_heap HXN.out 2
  have x3 := Lib.cell_of_heap HXN.out 3
  simp only [List.getElem?_toArray, List.getElem?_cons_zero, List.getElem?_cons_succ] at x0 x1 x2 x3
  clear hV4 hV4' hal hxn b4 hb35 HX3 HV3 HT3 HNT
  go_wp2_with fail
  refine HMY.out.mono ?_
  rintro e W6 ⟨rfl, b6⟩
  have HB6 := Lib.hid (HB5.out.trans (b6.mono HB5.out.size))
  have HV6 := Lib.hid (HV5.out.on b6)
  have HVN6 := Lib.hid (HVN.out.on b6)
  have HT6 := Lib.hid ((SlP.keep HT5.out fun p hp => b6.cell hp).more fun b hb => Nat.lt_of_lt_of_le hb b6.size)
  have hx6 := (b6.block _ hwl5).trans HX5.out
  have hn6 := (b6.block _ hwn5).trans HXN.out
  have hwl6 := Nat.lt_of_lt_of_le hwl5 b6.size
  have hwn6 := Nat.lt_of_lt_of_le hwn5 b6.size
  have y0 := Lib.cell_of_heap hx6 0
  have y1 := Lib.cell_of_heap hx6 1
  have y2 := Lib.cell_of_heap hx6 2
  have y3 := Lib.cell_of_heap hx6 3
  replace x0 := Lib.cell_of_heap hn6 0
  replace x1 := Lib.cell_of_heap hn6 1
  replace x2 := Lib.cell_of_heap hn6 2
  replace x3 := Lib.cell_of_heap hn6 3
  simp only [List.getElem?_toArray, List.getElem?_cons_zero, List.getElem?_cons_succ] at x0 x1 x2 x3 y0 y1 y2 y3
  clear b6 hx6 hn6 HX5 HXN HV5 HVN HT5 HMY
  have rr0 := fun w' (hw' : Below W6.heap.size W6 w') => (hw'.cell (p := ⟨W1.heap.size, 0, none⟩) hwl6).trans y0
  have rr1 := fun w' (hw' : Below W6.heap.size W6 w') => (hw'.cell (p := ⟨W1.heap.size, 1, none⟩) hwl6).trans y1
  have rr2 := fun w' (hw' : Below W6.heap.size W6 w') => (hw'.cell (p := ⟨W1.heap.size, 2, none⟩) hwl6).trans y2
  have rr3 := fun w' (hw' : Below W6.heap.size W6 w') => (hw'.cell (p := ⟨W1.heap.size, 3, none⟩) hwl6).trans y3
  have rn0 := fun w' (hw' : Below W6.heap.size W6 w') => (hw'.cell (p := ⟨W4.heap.size, 0, none⟩) hwn6).trans x0
  have rn1 := fun w' (hw' : Below W6.heap.size W6 w') => (hw'.cell (p := ⟨W4.heap.size, 1, none⟩) hwn6).trans x1
  have rn2 := fun w' (hw' : Below W6.heap.size W6 w') => (hw'.cell (p := ⟨W4.heap.size, 2, none⟩) hwn6).trans x2
  have rn3 := fun w' (hw' : Below W6.heap.size W6 w') => (hw'.cell (p := ⟨W4.heap.size, 3, none⟩) hwn6).trans x3
  have htr := fun w' (hw' : Below W6.heap.size W6 w') => (SlP.keep HT6.out fun p hp => hw'.cell hp).more (S' := fun b => b < w'.heap.size) fun b hb => Nat.lt_of_lt_of_le hb hw'.size
  have HTRS := Lib.hid htr
  clear htr
  rw [hacc, Bool.not_not] at hacc2
  have HA2 : Hid (∀ w', Below W6.heap.size W6 w' → Calls Try.prog 16 #[hdVal h A1 c1 B1 c2 C1 c3, .slice A3 l3.length c4] w' fun e w'' => e = .returned (.bool (accB h.mc l3)) ∧ Below w'.heap.size w' w'') :=
    Lib.hid fun w' hw' => raccepts_any (HV6.out.on hw') hO (by decide) (HTRS.out w' hw') hcp3
  have HA3 : Hid (∀ w', Below W6.heap.size W6 w' → Calls Try.prog 16 #[hdVal hn A4 c5 B4 c6 C4 c7, .slice A3 l3.length c4] w' fun e w'' => e = .returned (.bool (! accB h.mc l3)) ∧ Below w'.heap.size w' w'') :=
    Lib.hid fun w' hw' => by
      have h9 := raccepts_any (HVN6.out.on hw') hO4 (by decide) (HTRS.out w' hw') hcp3
      rw [hacc] at h9
      exact h9
  have HNN : Hid (∀ w', Below W6.heap.size W6 w' → Calls Try.prog 24 #[hdVal hn A4 c5 B4 c6 C4 c7] w' (NotRet w' hn)) :=
    Lib.hid fun w' hw' => Not_any (HVN6.out.on hw') hO4 hln3
  have hO9 := notH_ok hO4
  have HA9 : Hid (∀ w', Below W6.heap.size W6 w' → ∀ (Aq : Option Addr) (a : Nat) (Bq : Option Addr) (b : Nat) (Cq : Option Addr) (d : Nat), HdV w' (fun b => b < w'.heap.size) (notH hn) Aq a Bq b Cq d → Calls Try.prog 15 #[hdVal (notH hn) Aq a Bq b Cq d, .slice A3 l3.length c4] w' fun e w'' => e = .returned (.bool (accB h.mc l3)) ∧ Below w'.heap.size w' w'') :=
    Lib.hid fun w' hw' Aq a Bq b Cq d hv => by
      have h9 := accepts_any hv hO9 (by decide) (HTRS.out w' hw') hcp3
      rw [hacc2] at h9
      exact h9
  obtain ⟨IsH, hI1, hI3, HAA⟩ : ∃ R : Value → Bool → Prop, R (hdVal h A1 c1 B1 c2 C1 c3) (accB h.mc l3) ∧ R (hdVal hn A4 c5 B4 c6 C4 c7) (! accB h.mc l3) ∧ Hid (∀ w', Below W6.heap.size W6 w' → ∀ v bq, R v bq → Calls Try.prog 16 #[v, .slice A3 l3.length c4] w' fun e w'' => e = .returned (.bool bq) ∧ Below w'.heap.size w' w'') :=
    ⟨fun v bq => ∀ w', Below W6.heap.size W6 w' → Calls Try.prog 16 #[v, .slice A3 l3.length c4] w' fun e w'' => e = .returned (.bool bq) ∧ Below w'.heap.size w' w'', HA2.out, HA3.out, Lib.hid fun w' hw' _ _ h => h w' hw'⟩
  clear hacc hacc2 HA2 HA3 hO hO4 hO9 HLB
  generalize accB h.mc l3 = b at *
  have hb0 : Below W6.heap.size W6 W6 := Below.refl _ _
  go_upto_region 7 with fail
  cases b
  all_goals
    go_region_held3 (fun w' => Below W6.heap.size W6 w')
      (repeat (first | assumption | with_reducible refine Below.drew ?_ | with_reducible refine bt (a := W6) ?_ br))
      (first
        | (go_at_call 16; refine (HAA.out _ (by assumption) _ _ (by assumption)).mono ?_; rintro e WA ⟨rfl, br⟩)
        | (go_at_call 24; refine (HNN.out _ (by assumption)).mono ?_; rintro e WA ⟨A9, c9, B9, d9, C9, f9, rfl, v9, br⟩; have hv9 := v9.more (S' := fun b => b < WA.heap.size) fun b hb => hb.2)
        | (go_at_call 15; refine (HA9.out _ (by assumption) _ _ _ _ _ _ (by assumption)).mono ?_; rintro e WA ⟨rfl, br⟩)
        | (go_at_call 11; refine (lives_any _).mono ?_; rintro e WA ⟨rfl, br⟩))
    all_goals
      rename_i hH
      have HBE := Lib.hid (HB6.out.trans (hH.mono HB6.out.size))
      clear hH
      go_wp2
      go_ret
      exact ⟨rfl, HBE.out⟩
end Go.Proofs.Ytfiojodpcpkiaaa
