/- compile.maker.side: a side, state by state, of two functions. compile.leaf: next, tells; compile.maker.labelled at the two labels. -/
import Derived.Laws.EntriesVeiled
import Derived.Test.YtnkelhmjkmeilaaGreatDoorT40
import Derived.Test.YtnkelhmjkmeilaaGreatDoorT27
section
namespace Go.Proofs.YtnkelhmjkmeilaaGreatDoor.H
open Go.RowKit Go.Maps Go.WideMaps
attribute [local go_sem ↓] Go.wp_at_zero Go.wp_at_succ
abbrev mkrV (T : Addr) (cT : Nat) (U : Option Addr) (cU g fa : Nat) : Value := .agg #[.slice (some T) 1 cT, .slice none 0 0, .slice U 0 cU, .slice (some ⟨g, 0, none⟩) 2 2, .func (.func fa) #[] #[]]
def sideOf (M : Nat) (rowF : Nat → Nat → Int) (outF : Nat → Int) : Sd := ⟨(List.range M).map fun st => (List.range 3).map (rowF st), (List.range M).map outF⟩
set_option maxHeartbeats 8000000 in
set_option maxRecDepth 100000 in
theorem mside_any {w : World} {T : Addr} {U : Option Addr} {cT cU g fa : Nat} {M kn kt : Nat} {rn rt : Value} {rowF : Nat → Nat → Int} {outF : Nat → Int} (hM : M ≤ 10)
    (en : ∀ args w, (callFunc kn args).run Tryz.prog w = .ok (.enter kn args) w) (et : ∀ args w, (callFunc kt args).run Tryz.prog w = .ok (.enter kt args) w)
    (hn : ∀ w', Below w.heap.size w w' → ∀ st p : Nat, st < M → p < 3 → Calls Tryz.prog kn #[rn, .int .i64 st, .int .i64 p] w' fun e w'' => e = .returned (.int .i64 (rowF st p)) ∧ Below w'.heap.size w' w'')
    (ht : ∀ w', Below w.heap.size w w' → ∀ st : Nat, st < M → Calls Tryz.prog kt #[rt, .int .i64 st] w' fun e w'' => e = .returned (.int .i64 (outF st)) ∧ Below w'.heap.size w' w'') :
    Calls Tryz.prog 115 #[mkrV T cT U cU g fa, .int .i64 (M : Int), .func (.func kn) #[rn] #[], .func (.func kt) #[rt] #[]] w (BothRet w (sideOf M rowF outF)) := by
  have HN := Lib.hid hn
  have HTL := Lib.hid ht
  clear hn ht
  obtain ⟨W1, hW1⟩ : ∃ W1, W1 = ((w.alloc (.cells #[.slice (some T) 1 cT, .slice none 0 0, .slice U 0 cU, .slice (some ⟨g, 0, none⟩) 2 2, .func (.func fa) #[] #[]] 153)).alloc (.cells #[.slice none 0 0, .slice none 0 0] 113)) := ⟨_, rfl⟩
  have hs1 : W1.heap.size = w.heap.size + 2 := by rw [hW1, World.size_alloc, World.size_alloc]
  have hx0 : W1.heap[w.heap.size]? = some (.cells #[.slice (some T) 1 cT, .slice none 0 0, .slice U 0 cU, .slice (some ⟨g, 0, none⟩) 2 2, .func (.func fa) #[] #[]] 153 (0, 0)) := by
    rw [hW1]
    exact (Below.heap_alloc _ _ _ (by rw [World.size_alloc]; omega)).trans (heap_alloc_new w _)
  have hx2 : W1.heap[w.heap.size + 1]? = some (.cells #[.slice none 0 0, .slice none 0 0] 113 (0, 0)) := by
    have h9 := heap_alloc_new (w.alloc (.cells #[.slice (some T) 1 cT, .slice none 0 0, .slice U 0 cU, .slice (some ⟨g, 0, none⟩) 2 2, .func (.func fa) #[] #[]] 153)) (.cells #[.slice none 0 0, .slice none 0 0] 113)
    rw [World.size_alloc] at h9
    rw [hW1]
    exact h9
  have hB1 : Below w.heap.size w W1 := by
    rw [hW1]
    exact ((Below.refl _ w).alloc (Nat.le_refl _) _).alloc (by rw [World.size_alloc]; omega) _
  have HB1 := Lib.hid hB1
  have HX := Lib.hid (And.intro hx0 hx2)
  have HW1 := Lib.hid hW1
  have hs1a : w.heap.size + 2 ≤ W1.heap.size := Nat.le_of_eq hs1.symm
  have hs1b : W1.heap.size ≤ w.heap.size + 2 := Nat.le_of_eq hs1
  clear hx0 hx2 hB1 hs1 hW1
  go_enter Tryz.func115, Tryz.ntmps115
  obtain ⟨ind, hind, hzd, hsd, hbd⟩ := info_parts infoIn
  obtain ⟨inr, hinr, hzr, hsr, hbr⟩ := info_parts infoSl
  obtain ⟨zN, hzN⟩ : ∃ zN, zN = madeCells (Value.slice none 0 0).cells (M * 1) := ⟨_, rfl⟩
  obtain ⟨zO, hzO⟩ : ∃ zO, zO = madeCells (Value.int .i64 0).cells (M * 1) := ⟨_, rfl⟩
  have hmkN : ∀ w : World, (Instr.makeSlice 110 (.int .i64 (M : Int)) (.int .i64 (M : Int))).run Tryz.prog w = .ok (.slice (some ⟨w.heap.size, 0, none⟩) M M) (w.alloc (.cells zN 111)) := fun w => by
    have h9 := run_make (P := Tryz.prog) w 110 111 inr _ Tryz.underlying110 hinr hzr .i64 .i64 (M : Int) (M : Int) (by omega) (Int.le_refl _) (by rw [hbr]; omega) (by omega)
    rw [hsr, Int.toNat_natCast, ← hzN] at h9
    exact h9
  have hmkO : ∀ w : World, (Instr.makeSlice 111 (.int .i64 (M : Int)) (.int .i64 (M : Int))).run Tryz.prog w = .ok (.slice (some ⟨w.heap.size, 0, none⟩) M M) (w.alloc (.cells zO 3)) := fun w => by
    have h9 := run_make (P := Tryz.prog) w 111 3 ind _ Tryz.underlying111 hind hzd .i64 .i64 (M : Int) (M : Int) (by omega) (Int.le_refl _) (by rw [hbd]; omega) (by omega)
    rw [hsd, Int.toNat_natCast, ← hzO] at h9
    exact h9
  have HZ := Lib.hid (And.intro hzN hzO)
  clear hzN hzO
  go_upto_region 1 with fail
  rw [← HW1.out]
  go_cut [9] (fun s9 wx => ∃ gN gO gS, s9 = .pointer (some ⟨gS, 0, none⟩) ∧ MadeCut W1 wx zN zO M gN gO gS)
  case first =>
    go_region
    all_goals
      go_wp2_with fail
      go_meet
      first
      | exact ⟨W1.heap.size, W1.heap.size + 1, W1.heap.size + 1 + 1, rfl, (al3 W1 _ _ _ _ _ _).1, (al3 W1 _ _ _ _ _ _).2.1, (al3 W1 _ _ _ _ _ _).2.2.1, ⟨by omega, by omega, by omega⟩, by omega, by omega, by omega, (al3 W1 _ _ _ _ _ _).2.2.2.drew⟩
      | exact ⟨W1.heap.size, W1.heap.size + 1 + 1, W1.heap.size + 1, rfl, (al3 W1 _ _ _ _ _ _).1, (al3 W1 _ _ _ _ _ _).2.2.1, (al3 W1 _ _ _ _ _ _).2.1, ⟨by omega, by omega, by omega⟩, by omega, by omega, by omega, (al3 W1 _ _ _ _ _ _).2.2.2.drew⟩
      | exact ⟨W1.heap.size + 1, W1.heap.size, W1.heap.size + 1 + 1, rfl, (al3 W1 _ _ _ _ _ _).2.1, (al3 W1 _ _ _ _ _ _).1, (al3 W1 _ _ _ _ _ _).2.2.1, ⟨by omega, by omega, by omega⟩, by omega, by omega, by omega, (al3 W1 _ _ _ _ _ _).2.2.2.drew⟩
      | exact ⟨W1.heap.size + 1, W1.heap.size + 1 + 1, W1.heap.size, rfl, (al3 W1 _ _ _ _ _ _).2.1, (al3 W1 _ _ _ _ _ _).2.2.1, (al3 W1 _ _ _ _ _ _).1, ⟨by omega, by omega, by omega⟩, by omega, by omega, by omega, (al3 W1 _ _ _ _ _ _).2.2.2.drew⟩
      | exact ⟨W1.heap.size + 1 + 1, W1.heap.size, W1.heap.size + 1, rfl, (al3 W1 _ _ _ _ _ _).2.2.1, (al3 W1 _ _ _ _ _ _).1, (al3 W1 _ _ _ _ _ _).2.1, ⟨by omega, by omega, by omega⟩, by omega, by omega, by omega, (al3 W1 _ _ _ _ _ _).2.2.2.drew⟩
      | exact ⟨W1.heap.size + 1 + 1, W1.heap.size + 1, W1.heap.size, rfl, (al3 W1 _ _ _ _ _ _).2.2.1, (al3 W1 _ _ _ _ _ _).2.1, (al3 W1 _ _ _ _ _ _).1, ⟨by omega, by omega, by omega⟩, by omega, by omega, by omega, (al3 W1 _ _ _ _ _ _).2.2.2.drew⟩
  case rest =>
    obtain ⟨gN, gO, gS, rfl, hm⟩ := hcut
    rename World => W4
    obtain ⟨hmN, hmO, hmS, ⟨hn1, hn2, hn3⟩, hl1, hl2, hl3, hmB⟩ := hm
    have hlN := (Array.getElem?_eq_some_iff.1 hmN).1
    have hlO := (Array.getElem?_eq_some_iff.1 hmO).1
    have hlS := (Array.getElem?_eq_some_iff.1 hmS).1
    have hOwnN := own_of_heap (base := w.heap.size) hmN (by omega) (n := M) (by rw [HZ.out.1, size_madeCells, Nat.mul_one]) (by unfold maxLen; omega)
    have hOwnO := own_of_heap (base := w.heap.size) hmO (by omega) (n := M) (by rw [HZ.out.2, size_madeCells, Nat.mul_one]) (by unfold maxLen; omega)
    rw [HZ.out.1, Nat.mul_one, show (Value.slice none 0 0).cells = #[.slice none 0 0] from rfl, made_fill _ (fun _ => .slice none 0 0)] at hOwnN
    rw [HZ.out.2, Nat.mul_one, show (Value.int .i64 0).cells = #[.int .i64 0] from rfl, made_fill _ (fun v => .int .i64 (outF v)), ints_fill] at hOwnO
    have HOwn := Lib.hid (And.intro hOwnN hOwnO)
    have HMS := Lib.hid hmS
    have HBW := Lib.hid hmB
    have HBB := Lib.hid (bt HB1.out hmB)
    have HNE := Lib.hid (And.intro hn1 (And.intro hn2 hn3))
    have HX4 := Lib.hid (show W4.heap[w.heap.size]? = _ ∧ W4.heap[w.heap.size + 1]? = _ from ⟨(hmB.block _ (by omega)).trans HX.out.1, (hmB.block _ (by omega)).trans HX.out.2⟩)
    have h41 := hmB.size
    clear hmN hmO hmS hn1 hn2 hn3 hmB hOwnN hOwnO hmkN hmkO HZ
    go_wp2_with fail
    go_loopw [19] (fun iv wr => ∃ (i : Nat) (F : Nat → Value), iv = .int .i64 i ∧ i ≤ M ∧ Hid (∀ st, st < i → CIsP wr (fun q => W4.heap.size ≤ q ∧ q < wr.heap.size) (rowC ((List.range 3).map (rowF st))) (F st)) ∧ wr.ownsRow w.heap.size 111 1 (.slice (some ⟨gN, 0, none⟩) M M) M (fillL F (.slice none 0 0) M i) ∧ wr.ownsRow w.heap.size 3 1 (.slice (some ⟨gO, 0, none⟩) M M) M (ints (fillL outF 0 M i)) ∧
      Hid (∀ q, q < W4.heap.size → q ≠ gN → q ≠ gO → wr.heap[q]? = W4.heap[q]?) ∧ W4.heap.size ≤ wr.heap.size ∧ Below W1.heap.size W1 wr) (fun iv _ => M - (intOf iv).toNat)
    case atStart => exact ⟨0, fun _ => .slice none 0 0, rfl, Nat.zero_le _, Lib.hid (fun st h => by omega), HOwn.out.1, HOwn.out.2, Lib.hid (fun _ _ _ _ => rfl), Nat.le_refl _, HBW.out⟩
    case round =>
      obtain ⟨i, F, rfl, hi, hF, hON, hOO, hfar, hsz4, hbr⟩ := hrel
      obtain ⟨wo, rfl⟩ : ∃ wo : World, wo = wr := ⟨_, rfl⟩
      have hN1 := hfar.out w.heap.size (by omega) (by omega) (by omega)
      have hN3 := hfar.out (w.heap.size + 1) (by omega) (by omega) (by omega)
      have hN5 := hfar.out gS (by omega) (fun e => HNE.out.2.1 e.symm) (fun e => HNE.out.2.2 e.symm)
      rw [HX4.out.1] at hN1
      rw [HX4.out.2] at hN3
      rw [HMS.out] at hN5
      have HXO := Lib.hid (And.intro hN1 (And.intro hN3 hN5))
      have HONO := Lib.hid (And.intro hON hOO)
      have HBR := Lib.hid hbr
      have x3 := Lib.cell_of_heap hN1 3
      simp only [List.getElem?_toArray, List.getElem?_cons_zero, List.getElem?_cons_succ] at x3
      clear hN1 hN3 hN5 hON hOO hbr
      by_cases hlt : i < M
      · have hiI : (i : Int) < (M : Int) := by omega
        have hi0 : (0 : Int) ≤ (i : Int) := by omega
        go_upto_region 6 with (at_make; go_must (refine wpList_make_full _ rfl _ _ 111 rfl W4.heap.size 3 ind _ 1 Tryz.underlying111 hind hzd hsd .i64 .i64 _ _ 3 rfl rfl rfl rfl (by rw [hbd]; omega) (by unfold maxLen; omega) (by omega) ?_))
        intro W6 hown hg6
        rw [made_fill _ (fun v => .int .i64 (rowF i v)), ints_fill] at hown
        have hb6 := (Below.refl _ wo).grown hg6 (Nat.le_refl _) (fun q hq => by cases hq)
        obtain ⟨gr, hgr⟩ : ∃ gr, gr = wo.heap.size := ⟨_, rfl⟩
        rw [← hgr] at hown ⊢
        have HG := Lib.hid hgr
        have HO6 := Lib.hid hown
        have HB6 := Lib.hid hb6
        clear hgr hown hg6 hb6 x3
        go_wp2_with fail
        go_loopw [29] (fun pv wr => ∃ p : Nat, pv = .int .i64 p ∧ p ≤ 3 ∧ wr.ownsRow W4.heap.size 3 1 (.slice (some ⟨gr, 0, none⟩) 3 3) 3 (ints (fillL (rowF i) 0 3 p)) ∧ Below wo.heap.size wo wr) (fun pv _ => 3 - (intOf pv).toNat)
        case atStart => exact ⟨0, rfl, Nat.zero_le _, HO6.out, HB6.out⟩
        case round =>
          obtain ⟨p, rfl, hp, hOR, hbw⟩ := hrel
          have hB2r : Below W1.heap.size W1 wr := HBR.out.trans (hbw.mono HBR.out.size)
          have HOR := Lib.hid hOR
          have HBWO := Lib.hid hbw
          have HB2R := Lib.hid hB2r
          clear hOR hbw hB2r
          by_cases hlp : p < 3
          · have HC := Lib.hid (HN.out wr (HB1.out.trans (HB2R.out.mono HB1.out.size)) i p hlt hlp)
            have hpI : (p : Int) < 3 := by omega
            have hp0 : (0 : Int) ≤ (p : Int) := by omega
            have HFS := Lib.hid (fillL_set (rowF i) 0 hlp)
            go_wp2_with fail
            refine HC.out.mono ?_
            rintro e WA ⟨rfl, bA⟩
            have hOA := own_kept' HOR.out bA
            obtain ⟨cur1, o1, o2, o3, o4, o5, o6⟩ := own_open hOA
            have q0 := (Lib.cell_of_heap o1 p).trans (o6 p _ (ints_atD' (l := fillL (rowF i) 0 3 p) (by rw [fillL_len]; exact hlp)))
            have fq0 := Lib.frozen_of_heap o1 p
            have hOA2 := own_setz hOA (i := p) (.int .i64 (rowF i p))
            rw [ints_set, HFS.out] at hOA2
            have HOA := Lib.hid hOA2
            have HBA := Lib.hid ((HBWO.out.trans (bA.mono HBWO.out.size)).setCell (p := ⟨gr, p, none⟩) (by rw [HG.out]; exact Nat.le_refl _) (.int .i64 (rowF i p)))
            clear o1 o2 o3 o4 o5 o6 hOA hOA2 bA
            generalize rowF i p = rv at *
            go_wp2
            go_roundw
            case rel => exact ⟨p + 1, by go_num, by omega, HOA.out, HBA.out⟩
            case measure => simp [intOf]; omega
          · obtain rfl : p = 3 := by omega
            obtain ⟨wi, rfl⟩ : ∃ wi : World, wi = wr := ⟨_, rfl⟩
            have hwiz := HBWO.out.size
            have hS5 := (HBWO.out.block gS (by omega)).trans HXO.out.2.2
            have s0 := Lib.cell_of_heap hS5 0
            have s1 := Lib.cell_of_heap hS5 1
            simp only [List.getElem?_toArray, List.getElem?_cons_zero, List.getElem?_cons_succ] at s0 s1
            have hON := own_kept' HONO.out.1 (HBWO.out)
            have hOO := own_kept' HONO.out.2 (HBWO.out)
            have HONI := Lib.hid (And.intro hON hOO)
            obtain ⟨cN, n1, _, _, _, _, n6⟩ := own_open hON
            obtain ⟨cO, o1, _, _, _, _, o6⟩ := own_open hOO
            have k0 := (Lib.cell_of_heap n1 i).trans (n6 i _ (fillL_at F (.slice none 0 0) hlt))
            have fk0 := Lib.frozen_of_heap n1 i
            have l0 := (Lib.cell_of_heap o1 i).trans (o6 i _ (ints_atD' (l := fillL outF 0 M i) (by rw [fillL_len]; exact hlt)))
            have fl0 := Lib.frozen_of_heap o1 i
            have HOUT := Lib.hid (fun w' (hw' : Below wi.heap.size wi w') => HTL.out w' (HB1.out.trans ((HB2R.out.trans (hw'.mono HB2R.out.size)).mono HB1.out.size)) i hlt)
            have hnNO := HNE.out.1
            have hnON := Ne.symm hnNO
            have hnSN := HNE.out.2.1
            have hnSO := HNE.out.2.2
            have hnS3 := Ne.symm hnSN
            have hnS4 := Ne.symm hnSO
            clear hS5 hON hOO n1 n6 o1 o6
            generalize (if i < i then F i else Value.slice none 0 0) = kv at *
            generalize (fillL outF 0 M i).getD i (-1) = lv at *
            generalize hov : outF i = ov at *
            have HOV := Lib.hid hov
            clear hov
            go_upto_region 11 with fail
            go_region_held3 (fun w' => w'.cell? ⟨gS, 0, none⟩ = some (.slice (some ⟨gN, 0, none⟩) M M) ∧ w'.cell? ⟨gS, 1, none⟩ = some (.slice (some ⟨gO, 0, none⟩) M M))
              (first
                | exact ⟨s0, s1⟩
                | exact ⟨t0, t1⟩
                | go_keep)
              (first
                | (refine (HOUT.out _ (Below.drew (Below.refl _ wi))).mono ?_; rintro e WA ⟨rfl, br⟩; have hbA : Below wi.heap.size wi WA := (Below.drew (Below.refl _ wi)).trans br; have t0 := (hbA.cell (p := ⟨gS, 0, none⟩) (by show gS < _; omega)).trans s0; have t1 := (hbA.cell (p := ⟨gS, 1, none⟩) (by show gS < _; omega)).trans s1; have k1 := (hbA.cell (p := ⟨gN, i, none⟩) (by show gN < _; omega)).trans k0; have fk1 := (hbA.frozen (p := ⟨gN, i, none⟩) (by show gN < _; omega)).trans fk0; have l1 := (hbA.cell (p := ⟨gO, i, none⟩) (by show gO < _; omega)).trans l0; have fl1 := (hbA.frozen (p := ⟨gO, i, none⟩) (by show gO < _; omega)).trans fl0))
            have hgrz := HG.out
            have hbO : Below wo.heap.size wo WA := HBWO.out.trans (hbA.mono hwiz)
            have hFk : ∀ p : Addr, W4.heap.size ≤ p.block → p.block < wo.heap.size → ((WA.setCell ⟨gN, i, none⟩ (.slice (some ⟨gr, 0, none⟩) 3 3)).setCell ⟨gO, i, none⟩ (.int .i64 ov)).cell? p = wo.cell? p := fun p h1 h2 => World.cell?_of_block (by
              rw [heap_set_other (p := ⟨gO, i, none⟩) (show p.block ≠ gO by omega), heap_set_other (p := ⟨gN, i, none⟩) (show p.block ≠ gN by omega)]
              exact hbO.block p.block h2)
            have hsz6 : ((WA.setCell ⟨gN, i, none⟩ (.slice (some ⟨gr, 0, none⟩) 3 3)).setCell ⟨gO, i, none⟩ (.int .i64 ov)).heap.size = WA.heap.size := by rw [size_set, size_set]
            have hszA := hbO.size
            have hgrN : gr ≠ gN := by omega
            have hgrO : gr ≠ gO := by omega
            have hrw6 := ownsRow_setCell_other (ownsRow_setCell_other (own_kept' HOR.out hbA) (a := ⟨gN, i, none⟩) (fun e => hgrN (by injection e)) (.slice (some ⟨gr, 0, none⟩) 3 3)) (a := ⟨gO, i, none⟩) (fun e => hgrO (by injection e)) (.int .i64 ov)
            have hN6 := ownsRow_setCell_other (own_setz (own_kept' HONI.out.1 hbA) (i := i) (.slice (some ⟨gr, 0, none⟩) 3 3)) (a := ⟨gO, i, none⟩) (fun e => hnNO (by injection e)) (.int .i64 ov)
            have hO6 := own_setz (ownsRow_setCell_other (own_kept' HONI.out.2 hbA) (a := ⟨gN, i, none⟩) (fun e => hnON (by injection e)) (.slice (some ⟨gr, 0, none⟩) 3 3)) (i := i) (.int .i64 ov)
            rw [ints_set, ← HOV.out, fillL_set outF 0 hlt] at hO6
            rw [HOV.out] at hO6
            have hFs : (fillL F (.slice none 0 0) M i).set i (.slice (some ⟨gr, 0, none⟩) 3 3) = fillL (fun st => if st = i then .slice (some ⟨gr, 0, none⟩) 3 3 else F st) (.slice none 0 0) M (i + 1) := by
              rw [fillL_same (F := F) (G := fun st => if st = i then .slice (some ⟨gr, 0, none⟩) 3 3 else F st) (fun v hv => by show F v = if v = i then _ else F v; rw [if_neg (by omega)])]
              have h9 := fillL_set (fun st => if st = i then Value.slice (some ⟨gr, 0, none⟩) 3 3 else F st) (.slice none 0 0) hlt
              simp only [if_true] at h9
              exact h9
            rw [hFs] at hN6
            have HREL := Lib.hid (show (∀ st, st < i + 1 → CIsP ((WA.setCell ⟨gN, i, none⟩ (.slice (some ⟨gr, 0, none⟩) 3 3)).setCell ⟨gO, i, none⟩ (.int .i64 ov)) (fun q => W4.heap.size ≤ q ∧ q < ((WA.setCell ⟨gN, i, none⟩ (.slice (some ⟨gr, 0, none⟩) 3 3)).setCell ⟨gO, i, none⟩ (.int .i64 ov)).heap.size) (rowC ((List.range 3).map (rowF st))) ((fun st => if st = i then .slice (some ⟨gr, 0, none⟩) 3 3 else F st) st)) ∧
                (∀ q, q < W4.heap.size → q ≠ gN → q ≠ gO → ((WA.setCell ⟨gN, i, none⟩ (.slice (some ⟨gr, 0, none⟩) 3 3)).setCell ⟨gO, i, none⟩ (.int .i64 ov)).heap[q]? = W4.heap[q]?) ∧ W4.heap.size ≤ ((WA.setCell ⟨gN, i, none⟩ (.slice (some ⟨gr, 0, none⟩) 3 3)).setCell ⟨gO, i, none⟩ (.int .i64 ov)).heap.size ∧
                Below W1.heap.size W1 ((WA.setCell ⟨gN, i, none⟩ (.slice (some ⟨gr, 0, none⟩) 3 3)).setCell ⟨gO, i, none⟩ (.int .i64 ov)) from by
              refine ⟨fun st hst => ?_, fun q h1 h2 h3 => ?_, by rw [hsz6]; omega, ?_⟩
              · by_cases e : st = i
                · subst e
                  simp only [if_true]
                  have h8 := RdP.of_own hrw6
                  rw [fillL_all] at h8
                  have hlen : ((List.range 3).map (rowF st)).length = 3 := by simp
                  rw [rowC, hlen]
                  simp only [CIsP]
                  exact ⟨_, _, _, rfl, ⟨Nat.le_refl _, by omega⟩, h8, CsIsP.ints _ _ _⟩
                · simp only [e, if_false]
                  refine CIsP.more (fun b hb => ⟨hb.1, ?_⟩) (CIsP.keep (fun p hp => hFk p hp.1 hp.2) (hF.out st (by omega)))
                  rw [hsz6]
                  omega
              · rw [heap_set_other (p := ⟨gO, i, none⟩) h3, heap_set_other (p := ⟨gN, i, none⟩) h2, hbO.block q (by omega)]
                exact hfar.out q h1 h2 h3
              · exact ((HB2R.out.trans (hbA.mono HB2R.out.size)).setCell (p := ⟨gN, i, none⟩) (by show W1.heap.size ≤ gN; omega) _).setCell (p := ⟨gO, i, none⟩) (by show W1.heap.size ≤ gO; omega) _)
            have HN6 := Lib.hid (And.intro hN6 hO6)
            clear hgrz hFk hsz6 hrw6 hN6 hO6 hFs hbO br hbA k0 fk0 l0 fl0 t0 t1  k1 fk1 l1 fl1 s0 s1
            go_wp2
            go_roundw
            case rel => exact ⟨i + 1, _, by go_num, by omega, Lib.hid HREL.out.1, HN6.out.1, HN6.out.2, Lib.hid HREL.out.2.1, HREL.out.2.2.1, HREL.out.2.2.2⟩
            case measure => simp [intOf]; omega
      · obtain rfl : M = i := by omega
        have c0 := Lib.cell_of_heap HXO.out.2.2 0
        have c1 := Lib.cell_of_heap HXO.out.2.2 1
        have e0 := Lib.cell_of_heap HXO.out.2.1 0
        have e1 := Lib.cell_of_heap HXO.out.2.1 1
        have f0 := Lib.frozen_of_heap HXO.out.2.1 0
        have f1 := Lib.frozen_of_heap HXO.out.2.1 1
        simp only [List.getElem?_toArray, List.getElem?_cons_zero, List.getElem?_cons_succ] at c0 c1 e0 e1
        have hgN : gN ≠ w.heap.size + 1 := by omega
        have hgO : gO ≠ w.heap.size + 1 := by omega
        have HRET := Lib.hid (show BothRet w (sideOf M rowF outF) (.returned (.agg #[.slice (some ⟨gN, 0, none⟩) M M, .slice (some ⟨gO, 0, none⟩) M M])) ((wo.setCell ⟨w.heap.size + 1, 0, none⟩ (.slice (some ⟨gN, 0, none⟩) M M)).setCell ⟨w.heap.size + 1, 1, none⟩ (.slice (some ⟨gO, 0, none⟩) M M)) from by
          have hnl : (sideOf M rowF outF).nx.length = M := by simp [sideOf]
          have hol : (sideOf M rowF outF).out.length = M := by simp [sideOf]
          have hsz6 : ((wo.setCell ⟨w.heap.size + 1, 0, none⟩ (.slice (some ⟨gN, 0, none⟩) M M)).setCell ⟨w.heap.size + 1, 1, none⟩ (.slice (some ⟨gO, 0, none⟩) M M)).heap.size = wo.heap.size := by rw [size_set, size_set]
          have hw0 := HBB.out.size
          have hA := ownsRow_setCell_other (ownsRow_setCell_other HONO.out.1 (a := ⟨w.heap.size + 1, 0, none⟩) (fun e => hgN (by injection e)) (.slice (some ⟨gN, 0, none⟩) M M)) (a := ⟨w.heap.size + 1, 1, none⟩) (fun e => hgN (by injection e)) (.slice (some ⟨gO, 0, none⟩) M M)
          have hB := ownsRow_setCell_other (ownsRow_setCell_other HONO.out.2 (a := ⟨w.heap.size + 1, 0, none⟩) (fun e => hgO (by injection e)) (.slice (some ⟨gN, 0, none⟩) M M)) (a := ⟨w.heap.size + 1, 1, none⟩) (fun e => hgO (by injection e)) (.slice (some ⟨gO, 0, none⟩) M M)
          rw [fillL_all] at hA hB
          refine ⟨some ⟨gN, 0, none⟩, M, some ⟨gO, 0, none⟩, M, by show _ = Ending.returned (.agg #[.slice _ (sideOf M rowF outF).nx.length M, .slice _ (sideOf M rowF outF).out.length M]); rw [hnl, hol], ⟨?_, by rw [hnl]; exact ⟨Nat.le_refl _, by omega⟩, ?_, by rw [hol]; exact ⟨Nat.le_refl _, by omega⟩⟩, ((HB1.out.trans (HBR.out.mono (by omega))).setCell (p := ⟨w.heap.size + 1, 0, none⟩) (by show w.heap.size ≤ w.heap.size + 1; omega) _).setCell (p := ⟨w.heap.size + 1, 1, none⟩) (by show w.heap.size ≤ w.heap.size + 1; omega) _⟩
          · rw [hnl]
            refine ⟨_, RdP.of_own hA, ?_⟩
            have e1 : (sideOf M rowF outF).nx.map rowC = (List.range M).map fun st => rowC ((List.range 3).map (rowF st)) := by
              rw [sideOf, List.map_map]
              rfl
            rw [e1]
            refine CsIsP.of_each M fun v hv => CIsP.more (fun b hb => ?_) (CIsP.keep (fun p hp => World.cell?_of_block ?_) (hF.out v hv))
            · show w.heap.size ≤ b ∧ b < _
              rw [hsz6]
              exact ⟨by omega, hb.2⟩
            · rw [heap_set_other (p := ⟨w.heap.size + 1, 1, none⟩) (show p.block ≠ w.heap.size + 1 by omega), heap_set_other (p := ⟨w.heap.size + 1, 0, none⟩) (show p.block ≠ w.heap.size + 1 by omega)]
          · rw [hol]
            have e1 : (sideOf M rowF outF).out = (List.range M).map outF := rfl
            rw [e1]
            exact ⟨_, RdP.of_own hB, CsIsP.ints _ _ _⟩)
        have HTS := Lib.hid (two_stored HXO.out.2.1 (.slice (some ⟨gN, 0, none⟩) M M) (.slice (some ⟨gO, 0, none⟩) M M))
        clear hF hfar
        go_wp2
        exact ret_sd rfl rfl rfl HTS.out HRET.out
end Go.Proofs.YtnkelhmjkmeilaaGreatDoor.H
end
section
namespace Go.Proofs.YtnkelhmjkmeilaaGreatDoor.H
open Go.RowKit
attribute [local go_sem ↓] Go.wp_at_zero Go.wp_at_succ
abbrev leafV (T : Addr) (cT : Nat) (U : Option Addr) (cU g fa : Nat) (lab : Int) : Value := .agg #[.slice (some T) 1 cT, .slice none 0 0, .slice U 0 cU, .slice (some ⟨g, 0, none⟩) 2 2, .func (.func fa) #[] #[], .int .i64 lab]
set_option maxHeartbeats 2000000 in
set_option maxRecDepth 100000 in
theorem leaf_next {w : World} {T : Addr} {U : Option Addr} {cT cU g fa : Nat} {lab : Int} (st p : Int) : Calls Tryz.prog 160 #[leafV T cT U cU g fa lab, .int .i64 st, .int .i64 p] w fun e w' => e = .returned (.int .i64 1) ∧ Below w.heap.size w w' := by
  have b1 := (Below.refl _ w).alloc (Nat.le_refl _) (.cells #[.slice (some T) 1 cT, .slice none 0 0, .slice U 0 cU, .slice (some ⟨g, 0, none⟩) 2 2, .func (.func fa) #[] #[], .int .i64 lab] 258)
  go_enter Tryz.func160, Tryz.ntmps160
  go_wp2
  go_ret
  exact ⟨rfl, b1⟩
set_option maxHeartbeats 4000000 in
set_option maxRecDepth 100000 in
theorem leaf_tells {w : World} {T : Addr} {U : Option Addr} {cT cU g fa : Nat} {lab : Int} (hL : LabsAt w g) (hlab : lab = 0 ∨ lab = 1) (st : Nat) (hst : st ≤ 10) :
    Calls Tryz.prog 161 #[leafV T cT U cU g fa lab, .int .i64 st] w fun e w' => e = .returned (.int .i64 (if st = 0 then lab else 2)) ∧ Below w.heap.size w w' := by
  have b1 := (Below.refl _ w).alloc (Nat.le_refl _) (.cells #[.slice (some T) 1 cT, .slice none 0 0, .slice U 0 cU, .slice (some ⟨g, 0, none⟩) 2 2, .func (.func fa) #[] #[], .int .i64 lab] 258)
  have hL1 := hL.on b1
  have hg := (Array.getElem?_eq_some_iff.1 hL).1
  have z := fun k => Lib.cell_of_heap hL1 k
  have hgn : g ≠ w.heap.size := by omega
  rcases hlab with rfl | rfl
  · have z0 := z 0
    have z1 := z 1
    have z2 := z 2
    have z3 := z 3
    have z4 := z 4
    have z5 := z 5
    have z6 := z 6
    simp only [labCs, List.getElem?_toArray, List.getElem?_cons_zero, List.getElem?_cons_succ] at z0 z1 z2 z3 z4 z5 z6
    have hb2 := b1.alloc b1.size (.cells #[.int .i64 1, .string ⟨#[]⟩, .string ⟨#[]⟩, .bool false, .string ⟨#[]⟩, .bool false, .bool false] 141)
    clear z hL hL1
    by_cases h0 : st = 0
    · subst h0
      go_enter Tryz.func161, Tryz.ntmps161
      go_wp2
      go_ret
      exact ⟨rfl, hb2⟩
    · have h0' : ((st : Int) == 0) = false := by rw [beq_eq_false_iff_ne]; omega
      go_enter Tryz.func161, Tryz.ntmps161
      go_wp2
      go_ret
      exact ⟨rfl, hb2⟩
  · have z0 := z 7
    have z1 := z 8
    have z2 := z 9
    have z3 := z 10
    have z4 := z 11
    have z5 := z 12
    have z6 := z 13
    simp only [labCs, List.getElem?_toArray, List.getElem?_cons_zero, List.getElem?_cons_succ] at z0 z1 z2 z3 z4 z5 z6
    have hb2 := b1.alloc b1.size (.cells #[.int .i64 2, .string ⟨#[]⟩, .string ⟨#[]⟩, .bool false, .string ⟨#[]⟩, .bool false, .bool false] 141)
    clear z hL hL1
    by_cases h0 : st = 0
    · subst h0
      go_enter Tryz.func161, Tryz.ntmps161
      go_wp2
      go_ret
      exact ⟨rfl, hb2⟩
    · have h0' : ((st : Int) == 0) = false := by rw [beq_eq_false_iff_ne]; omega
      go_enter Tryz.func161, Tryz.ntmps161
      go_wp2
      go_ret
      exact ⟨rfl, hb2⟩
theorem lab_side (lab : Int) : sideOf 2 (fun _ _ => 1) (fun st => if st = 0 then lab else 2) = ⟨[[1, 1, 1], [1, 1, 1]], [lab, 2]⟩ := rfl
set_option maxHeartbeats 8000000 in
set_option maxRecDepth 100000 in
theorem labelled_any {w : World} {T : Addr} {U : Option Addr} {cT cU g fa : Nat} {lab : Int} (hL : LabsAt w g) (hlab : lab = 0 ∨ lab = 1) :
    Calls Tryz.prog 113 #[mkrV T cT U cU g fa, .int .i64 lab] w (BothRet w ⟨[[1, 1, 1], [1, 1, 1]], [lab, 2]⟩) := by
  obtain ⟨W1, hW1⟩ : ∃ W1, W1 = ((w.alloc (.cells #[.slice (some T) 1 cT, .slice none 0 0, .slice U 0 cU, .slice (some ⟨g, 0, none⟩) 2 2, .func (.func fa) #[] #[]] 153)).alloc (.cells #[.slice none 0 0, .slice none 0 0] 113)) := ⟨_, rfl⟩
  have hs1 : W1.heap.size = w.heap.size + 2 := by rw [hW1, World.size_alloc, World.size_alloc]
  have hx0 : W1.heap[w.heap.size]? = some (.cells #[.slice (some T) 1 cT, .slice none 0 0, .slice U 0 cU, .slice (some ⟨g, 0, none⟩) 2 2, .func (.func fa) #[] #[]] 153 (0, 0)) := by
    rw [hW1]
    exact (Below.heap_alloc _ _ _ (by rw [World.size_alloc]; omega)).trans (heap_alloc_new w _)
  have hx2 : W1.heap[w.heap.size + 1]? = some (.cells #[.slice none 0 0, .slice none 0 0] 113 (0, 0)) := by
    have h9 := heap_alloc_new (w.alloc (.cells #[.slice (some T) 1 cT, .slice none 0 0, .slice U 0 cU, .slice (some ⟨g, 0, none⟩) 2 2, .func (.func fa) #[] #[]] 153)) (.cells #[.slice none 0 0, .slice none 0 0] 113)
    rw [World.size_alloc] at h9
    rw [hW1]
    exact h9
  have hB1 : Below w.heap.size w W1 := by
    rw [hW1]
    exact ((Below.refl _ w).alloc (Nat.le_refl _) _).alloc (by rw [World.size_alloc]; omega) _
  have HB1 := Lib.hid hB1
  have HX := Lib.hid hx2
  have HW1 := Lib.hid hW1
  have hs1a : w.heap.size + 2 ≤ W1.heap.size := Nat.le_of_eq hs1.symm
  have hs1b : W1.heap.size ≤ w.heap.size + 2 := Nat.le_of_eq hs1
  have hL1 := hL.on hB1
  have HL := Lib.hid hL1
  have hg := (Array.getElem?_eq_some_iff.1 hL).1
  have z := fun k => Lib.cell_of_heap hL1 k
  have x0 := Lib.cell_of_heap hx0 0
  have x1 := Lib.cell_of_heap hx0 1
  have x2 := Lib.cell_of_heap hx0 2
  have x3 := Lib.cell_of_heap hx0 3
  have x4 := Lib.cell_of_heap hx0 4
  simp only [List.getElem?_toArray, List.getElem?_cons_zero, List.getElem?_cons_succ] at x0 x1 x2 x3 x4
  have hwl : w.heap.size < W1.heap.size := by omega
  have hgl : g < W1.heap.size := by omega
  have hgn : g ≠ w.heap.size := by omega
  clear hx0 hx2 hB1 hs1 hW1 hL1 hL
  go_enter Tryz.func113, Tryz.ntmps113
  go_upto_region 1 with fail
  rw [← HW1.out]
  rcases hlab with rfl | rfl
  · have z0 := z 0
    have z1 := z 1
    have z2 := z 2
    have z3 := z 3
    have z4 := z 4
    have z5 := z 5
    have z6 := z 6
    simp only [labCs, List.getElem?_toArray, List.getElem?_cons_zero, List.getElem?_cons_succ] at z0 z1 z2 z3 z4 z5 z6
    clear z
    have b2 := (Below.refl _ W1).alloc (Nat.le_refl _) (.cells #[.int .i64 1, .string ⟨#[]⟩, .string ⟨#[]⟩, .bool false, .string ⟨#[]⟩, .bool false, .bool false] 141)
    have b3 := b2.alloc b2.size (.cells #[.slice (some T) 1 cT, .slice none 0 0, .slice U 0 cU, .slice (some ⟨g, 0, none⟩) 2 2, .func (.func fa) #[] #[], .int .i64 0] 258)
    have HB3 := Lib.hid b3
    have hL3 := HL.out.on b3
    have HS := Lib.hid (mside_any (T := T) (U := U) (cT := cT) (cU := cU) (g := g) (fa := fa) (M := 2) (rowF := fun _ _ => 1) (outF := fun st => if st = 0 then 0 else 2) (by decide) (enters_of Tryz.func160 (by kernel_rfl) rfl) (enters_of Tryz.func161 (by kernel_rfl) rfl)
      (fun w' _ st p _ _ => leaf_next (w := w') (T := T) (U := U) (cT := cT) (cU := cU) (g := g) (fa := fa) (lab := 0) st p) (fun w' hw' st hst => leaf_tells (w := w') (T := T) (U := U) (cT := cT) (cU := cU) (g := g) (fa := fa) (hL3.on hw') (by simp) st (by omega)))
    rw [lab_side] at HS
    clear b2 b3 hL3
    go_wp2_with fail
    refine HS.out.mono ?_
    rintro e W5 ⟨N5, c5, O5, d5, rfl, hV, b5⟩
    have h5 := ((HB3.out.trans (b5.mono HB3.out.size)).block _ (show w.heap.size + 1 < W1.heap.size by omega)).trans HX.out
    have hbb := bt HB1.out (HB3.out.trans (b5.mono HB3.out.size))
    have y0 := Lib.cell_of_heap h5 0
    have y1 := Lib.cell_of_heap h5 1
    have f0 := Lib.frozen_of_heap h5 0
    have f1 := Lib.frozen_of_heap h5 1
    simp only [List.getElem?_toArray, List.getElem?_cons_zero, List.getElem?_cons_succ] at y0 y1
    have HTS := Lib.hid (two_stored h5 (.slice N5 2 c5) (.slice O5 2 d5))
    have hlo := HB3.out.size
    have HR := Lib.hid (show BothRet w ⟨[[1, 1, 1], [1, 1, 1]], [0, 2]⟩ (.returned (.agg #[.slice N5 2 c5, .slice O5 2 d5])) ((W5.setCell ⟨w.heap.size + 1, 0, none⟩ (.slice N5 2 c5)).setCell ⟨w.heap.size + 1, 1, none⟩ (.slice O5 2 d5)) from
      ⟨N5, c5, O5, d5, rfl, (hV.keep fun p hp => World.cell?_of_block (by
        rw [heap_set_other (p := ⟨w.heap.size + 1, 1, none⟩) (show p.block ≠ w.heap.size + 1 by omega), heap_set_other (p := ⟨w.heap.size + 1, 0, none⟩) (show p.block ≠ w.heap.size + 1 by omega)])).more fun b hb => ⟨by omega, by rw [size_set, size_set]; exact hb.2⟩,
        (hbb.setCell (p := ⟨w.heap.size + 1, 0, none⟩) (Nat.le_succ _) _).setCell (p := ⟨w.heap.size + 1, 1, none⟩) (Nat.le_succ _) _⟩)
    clear hV b5 h5 hbb
    go_wp2
    exact ret_sd rfl rfl rfl HTS.out HR.out
  · have z0 := z 7
    have z1 := z 8
    have z2 := z 9
    have z3 := z 10
    have z4 := z 11
    have z5 := z 12
    have z6 := z 13
    simp only [labCs, List.getElem?_toArray, List.getElem?_cons_zero, List.getElem?_cons_succ] at z0 z1 z2 z3 z4 z5 z6
    clear z
    have b2 := (Below.refl _ W1).alloc (Nat.le_refl _) (.cells #[.int .i64 2, .string ⟨#[]⟩, .string ⟨#[]⟩, .bool false, .string ⟨#[]⟩, .bool false, .bool false] 141)
    have b3 := b2.alloc b2.size (.cells #[.slice (some T) 1 cT, .slice none 0 0, .slice U 0 cU, .slice (some ⟨g, 0, none⟩) 2 2, .func (.func fa) #[] #[], .int .i64 1] 258)
    have HB3 := Lib.hid b3
    have hL3 := HL.out.on b3
    have HS := Lib.hid (mside_any (T := T) (U := U) (cT := cT) (cU := cU) (g := g) (fa := fa) (M := 2) (rowF := fun _ _ => 1) (outF := fun st => if st = 0 then 1 else 2) (by decide) (enters_of Tryz.func160 (by kernel_rfl) rfl) (enters_of Tryz.func161 (by kernel_rfl) rfl)
      (fun w' _ st p _ _ => leaf_next (w := w') (T := T) (U := U) (cT := cT) (cU := cU) (g := g) (fa := fa) (lab := 1) st p) (fun w' hw' st hst => leaf_tells (w := w') (T := T) (U := U) (cT := cT) (cU := cU) (g := g) (fa := fa) (hL3.on hw') (by simp) st (by omega)))
    rw [lab_side] at HS
    clear b2 b3 hL3
    go_wp2_with fail
    refine HS.out.mono ?_
    rintro e W5 ⟨N5, c5, O5, d5, rfl, hV, b5⟩
    have h5 := ((HB3.out.trans (b5.mono HB3.out.size)).block _ (show w.heap.size + 1 < W1.heap.size by omega)).trans HX.out
    have hbb := bt HB1.out (HB3.out.trans (b5.mono HB3.out.size))
    have y0 := Lib.cell_of_heap h5 0
    have y1 := Lib.cell_of_heap h5 1
    have f0 := Lib.frozen_of_heap h5 0
    have f1 := Lib.frozen_of_heap h5 1
    simp only [List.getElem?_toArray, List.getElem?_cons_zero, List.getElem?_cons_succ] at y0 y1
    have HTS := Lib.hid (two_stored h5 (.slice N5 2 c5) (.slice O5 2 d5))
    have hlo := HB3.out.size
    have HR := Lib.hid (show BothRet w ⟨[[1, 1, 1], [1, 1, 1]], [1, 2]⟩ (.returned (.agg #[.slice N5 2 c5, .slice O5 2 d5])) ((W5.setCell ⟨w.heap.size + 1, 0, none⟩ (.slice N5 2 c5)).setCell ⟨w.heap.size + 1, 1, none⟩ (.slice O5 2 d5)) from
      ⟨N5, c5, O5, d5, rfl, (hV.keep fun p hp => World.cell?_of_block (by
        rw [heap_set_other (p := ⟨w.heap.size + 1, 1, none⟩) (show p.block ≠ w.heap.size + 1 by omega), heap_set_other (p := ⟨w.heap.size + 1, 0, none⟩) (show p.block ≠ w.heap.size + 1 by omega)])).more fun b hb => ⟨by omega, by rw [size_set, size_set]; exact hb.2⟩,
        (hbb.setCell (p := ⟨w.heap.size + 1, 0, none⟩) (Nat.le_succ _) _).setCell (p := ⟨w.heap.size + 1, 1, none⟩) (Nat.le_succ _) _⟩)
    clear hV b5 h5 hbb
    go_wp2
    exact ret_sd rfl rfl rfl HTS.out HR.out
end Go.Proofs.YtnkelhmjkmeilaaGreatDoor.H
end
