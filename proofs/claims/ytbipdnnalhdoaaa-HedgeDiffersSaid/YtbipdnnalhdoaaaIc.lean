/- The walk of the law HedgeDiffers. -/
import Derived.Test.YtbipdnnalhdoaaaIa
import Derived.Test.YtbipdnnalhdoaaaIb
import Derived.Test.YtbipdnnalhdoaaaHG
namespace Go.Proofs.Ytbipdnnalhdoaaa
open Go.RowKit Go.Maps Go.WideMaps
attribute [local go_sem ↓] Go.wp_at_zero Go.wp_at_succ

/-- a new block for an automaton, in a world that has grown -/
def New4 (W : World) (q : Nat) : Prop := W.heap[q]? = some (.cells #[.int .i64 0, .slice none 0 0, .slice none 0 0, .slice none 0 0] 28 (0, 0))
theorem New4.facts {W : World} {q : Nat} (h : New4 W q) : W.frozen? ⟨q, 0, none⟩ = false ∧ W.frozen? ⟨q, 1, none⟩ = false ∧ W.frozen? ⟨q, 2, none⟩ = false ∧ W.frozen? ⟨q, 3, none⟩ = false ∧ W.cell? ⟨q, 0, none⟩ = some (.int .i64 0) ∧ W.cell? ⟨q, 1, none⟩ = some (.slice none 0 0) ∧ W.cell? ⟨q, 2, none⟩ = some (.slice none 0 0) ∧ W.cell? ⟨q, 3, none⟩ = some (.slice none 0 0) :=
  ⟨Lib.frozen_of_heap h 0, Lib.frozen_of_heap h 1, Lib.frozen_of_heap h 2, Lib.frozen_of_heap h 3, Lib.cell_of_heap h 0, Lib.cell_of_heap h 1, Lib.cell_of_heap h 2, Lib.cell_of_heap h 3⟩
theorem New4.one {X WA : World} (br : Below (X.alloc (.cells #[.int .i64 0, .slice none 0 0, .slice none 0 0, .slice none 0 0] 28)).heap.size (X.alloc (.cells #[.int .i64 0, .slice none 0 0, .slice none 0 0, .slice none 0 0] 28)) WA) : New4 WA X.heap.size := (br.block _ (lt_al _ _)).trans (heap_alloc_new _ _)
theorem New4.one0 {X WA : World} (br : Below (X.alloc (.cells #[.int .i64 0, .slice none 0 0, .slice none 0 0, .slice none 0 0] 28)).drew.heap.size (X.alloc (.cells #[.int .i64 0, .slice none 0 0, .slice none 0 0, .slice none 0 0] 28)).drew WA) : New4 WA X.heap.size := (br.block _ (lt_al X _)).trans (heap_alloc_new X _)
theorem New4.on {W WA : World} {q : Nat} (h : New4 W q) (br : Below W.heap.size W WA) : New4 WA q := (br.block q (Array.getElem?_eq_some_iff.1 h).1).trans h
theorem New4.lt {W : World} {q : Nat} (h : New4 W q) : q < W.heap.size := (Array.getElem?_eq_some_iff.1 h).1
/-- behind the first comparison: an automaton in a block of its own -/
def DifCut (W wx : World) (c : Hd) (nC : Nat) : Prop := ∃ A c1 B c2 C c3, wx.heap[nC]? = some (.cells #[.int .i64 c.K, .slice A c.labs.length c1, .slice B c.root.nx.length c2, .slice C c.root.out.length c3] 28 (0, 0)) ∧ HdV wx (fun b => b < wx.heap.size) c A c1 B c2 C c3 ∧ Below W.heap.size W wx
theorem DifCut.after {W WB : World} {c : Hd} {A B C : Option Addr} {c1 c2 c3 lo : Nat} (hV : HdV WB (fun b => lo ≤ b ∧ b < WB.heap.size) c A c1 B c2 C c3) (hb : Below W.heap.size W WB) :
    DifCut W (WB.alloc (.cells #[.int .i64 c.K, .slice A c.labs.length c1, .slice B c.root.nx.length c2, .slice C c.root.out.length c3] 28)) c WB.heap.size :=
  ⟨A, c1, B, c2, C, c3, heap_alloc_new WB _, (hV.keep fun p hp => World.cell?_of_block (Below.heap_alloc WB _ p.block hp.2)).more fun b hb' => by rw [World.size_alloc]; omega, hb.alloc hb.size _⟩
theorem DifCut.set {W WB : World} {c : Hd} {A B C : Option Addr} {c1 c2 c3 lo nC : Nat} (hV : HdV WB (fun b => lo ≤ b ∧ b < WB.heap.size) c A c1 B c2 C c3) (hb : Below W.heap.size W WB) (hn : New4 WB nC) (hl : nC < lo) (hw : W.heap.size ≤ nC) :
    DifCut W ((((WB.setCell ⟨nC, 0, none⟩ (.int .i64 c.K)).setCell ⟨nC, 1, none⟩ (.slice A c.labs.length c1)).setCell ⟨nC, 2, none⟩ (.slice B c.root.nx.length c2)).setCell ⟨nC, 3, none⟩ (.slice C c.root.out.length c3)) c nC := by
  have hsz : ((((WB.setCell ⟨nC, 0, none⟩ (.int .i64 c.K)).setCell ⟨nC, 1, none⟩ (.slice A c.labs.length c1)).setCell ⟨nC, 2, none⟩ (.slice B c.root.nx.length c2)).setCell ⟨nC, 3, none⟩ (.slice C c.root.out.length c3)).heap.size = WB.heap.size := by rw [size_set, size_set, size_set, size_set]
  refine ⟨A, c1, B, c2, C, c3, four_stored hn _ _ _ _, (hV.keep fun p hp => World.cell?_of_block ?_).more fun b hb' => by rw [hsz]; exact hb'.2, set4 hb hw _ _ _ _⟩
  have hne : p.block ≠ nC := by have := hp.1; omega
  rw [heap_set_other (p := ⟨nC, 3, none⟩) hne, heap_set_other (p := ⟨nC, 2, none⟩) hne, heap_set_other (p := ⟨nC, 1, none⟩) hne, heap_set_other (p := ⟨nC, 0, none⟩) hne]
set_option maxHeartbeats 8000000 in
set_option maxRecDepth 100000 in
theorem HedgeDiffers_calls {w : World} {x : Int} {A B D E T : Option Addr} {c c' cD cE cT : Nat} {ls ls2 : List (List Int)} {l l2 lt : List Int} (hx : IntB x) (HL : RowsIn w A ls) (_ : Cap ls.length c) (HR : SlP w (fun b => b < w.heap.size) 1 B l.length (l.map .i)) (hcl : Cap l.length c') (hb : ∀ x ∈ l, IntB x)
    (HL2 : RowsIn w D ls2) (_ : Cap ls2.length cD) (HR2 : SlP w (fun b => b < w.heap.size) 1 E l2.length (l2.map .i)) (hcl2 : Cap l2.length cE) (hb2 : ∀ x ∈ l2, IntB x) (HT : SlP w (fun b => b < w.heap.size) 1 T lt.length (lt.map .i)) (hct : Cap lt.length cT) (hbt : ∀ x ∈ lt, IntB x) :
    Calls Try.prog 8 #[.int .i64 x, .slice A ls.length c, .slice B l.length c', .slice D ls2.length cD, .slice E l2.length cE, .slice T lt.length cT] w fun e w' => e = .returned (.bool true) ∧ Below w.heap.size w w' := by
  have HG := Lib.hid (made_any (c := c) (c' := c') (cD := cD) (cE := cE) hx HL HR hcl.len hb HL2 HR2 hcl2.len hb2)
  have HTI := Lib.hid HT
  have HTB := Lib.hid (And.intro hct.len hbt)
  clear HL HR hb HL2 HR2 hb2 HT hct hbt
  go_enter Try.func8, Try.ntmps8
  go_wp2_with fail
  refine HG.out.mono ?_
  rintro e W1 ⟨g, h, A1, c1, B1, c2, C1, c3, A2, d1, B2, d2, C2, d3, rfl, hO, hO', hL3, hL3', hV, hV', b1⟩
  have HL3 := Lib.hid (And.intro hL3 hL3')
  have hgl : g.labs.length ≤ 3 := by omega
  have hhl : h.labs.length ≤ 3 := by omega
  have HLE := Lib.hid (show g.labs.length = h.labs.length by omega)
  clear hL3 hL3'
  have hV1 := hV.more (S' := fun b => b < W1.heap.size) fun b hb => hb.2
  have hV1' := hV'.more (S' := fun b => b < W1.heap.size) fun b hb => hb.2
  have hal := (Below.refl _ W1).alloc (Nat.le_refl _) (.cells #[.int .i64 g.K, .slice A1 g.labs.length c1, .slice B1 g.root.nx.length c2, .slice C1 g.root.out.length c3, .int .i64 h.K, .slice A2 h.labs.length d1, .slice B2 h.root.nx.length d2, .slice C2 h.root.out.length d3] 51)
  have hxh := heap_alloc_new W1 (.cells #[.int .i64 g.K, .slice A1 g.labs.length c1, .slice B1 g.root.nx.length c2, .slice C1 g.root.out.length c3, .int .i64 h.K, .slice A2 h.labs.length d1, .slice B2 h.root.nx.length d2, .slice C2 h.root.out.length d3] 51)
  go_upto_region 2 with fail
  generalize W1.alloc (.cells #[.int .i64 g.K, .slice A1 g.labs.length c1, .slice B1 g.root.nx.length c2, .slice C1 g.root.out.length c3, .int .i64 h.K, .slice A2 h.labs.length d1, .slice B2 h.root.nx.length d2, .slice C2 h.root.out.length d3] 51) = W2 at *
  have hwl := (Array.getElem?_eq_some_iff.1 hxh).1
  have HV2 := Lib.hid (And.intro (hV1.on hal) (hV1'.on hal))
  have HX2 := Lib.hid hxh
  have HB2 := Lib.hid (b1.trans (hal.mono b1.size))
  have HTr := Lib.hid (Trees_any (w := W2) (c := cT) ((SlP.keep HTI.out fun p hp => HB2.out.cell hp).more fun b hb => Nat.lt_of_lt_of_le hb HB2.out.size) HTB.out.1 HTB.out.2)
  clear hV hV' hV1 hV1' hal hxh b1 HG
  go_wp2_with fail
  refine HTr.out.mono ?_
  rintro e W3 ⟨A3, c4, l3, xs3, rfl, ho3, hcs3, hlab3, hw3, b3⟩
  have hcp3 := own_cap ho3
  have HT3 := Lib.hid (show SlP W3 (fun b => b < W3.heap.size) 2 A3 l3.length (trsC l3) from ⟨xs3, (RdP.of_own ho3).more fun b hb => hb.2, hcs3.more fun b hb => hb.1.2⟩)
  have HB3 := Lib.hid (HB2.out.trans (b3.mono HB2.out.size))
  have HX3 := Lib.hid ((b3.block _ hwl).trans HX2.out)
  have HV3 := Lib.hid (And.intro (HV2.out.1.on b3) (HV2.out.2.on b3))
  have hwl3 := Nat.lt_of_lt_of_le hwl b3.size
  have HLB := Lib.hid (show LabB h.labs.length l3 by rw [HL3.out.2]; exact hlab3)
  have hlen3 := wtTs_ge l3
  clear ho3 hcs3 b3 HTr HX2 HV2 hlab3
  have HN : Hid (∀ w', Below W3.heap.size W3 w' → Calls Try.prog 25 #[hdVal h A2 d1 B2 d2 C2 d3] w' (NotRet w' h)) := Lib.hid fun w' hw' => Not_any (HV3.out.2.on hw') hO' hhl
  have HA : Hid (∀ (w1 w' : World) (P : Option Addr) (p : Nat) (Q : Option Addr) (q : Nat) (R : Option Addr) (r lo : Nat), HdV w1 (fun b => lo ≤ b ∧ b < w1.heap.size) (notH h) P p Q q R r → Below w1.heap.size w1 w' → Below W3.heap.size W3 w' → Calls Try.prog 27 #[hdVal g A1 c1 B1 c2 C1 c3, hdVal (notH h) P p Q q R r] w' (AndRet w' (andH g (notH h)))) :=
    Lib.hid fun w1 w' P p Q q R r lo h1 h2 h3 => And_any (HV3.out.1.on h3) ((h1.more fun b hb => hb.2).on h2) hO (notH_ok hO') HLE.out
  have z := fun k => Lib.cell_of_heap HX3.out k
  have z0 := z 0
  have z1 := z 1
  have z2 := z 2
  have z3 := z 3
  have z4 := z 4
  have z5 := z 5
  have z6 := z 6
  have z7 := z 7
  simp only [List.getElem?_toArray, List.getElem?_cons_zero, List.getElem?_cons_succ] at z0 z1 z2 z3 z4 z5 z6 z7
  clear z
  have r0 := fun w' (hw' : Below W3.heap.size W3 w') => (hw'.cell (p := ⟨W1.heap.size, 0, none⟩) hwl3).trans z0
  have r1 := fun w' (hw' : Below W3.heap.size W3 w') => (hw'.cell (p := ⟨W1.heap.size, 1, none⟩) hwl3).trans z1
  have r2 := fun w' (hw' : Below W3.heap.size W3 w') => (hw'.cell (p := ⟨W1.heap.size, 2, none⟩) hwl3).trans z2
  have r3 := fun w' (hw' : Below W3.heap.size W3 w') => (hw'.cell (p := ⟨W1.heap.size, 3, none⟩) hwl3).trans z3
  have r4 := fun w' (hw' : Below W3.heap.size W3 w') => (hw'.cell (p := ⟨W1.heap.size, 4, none⟩) hwl3).trans z4
  have r5 := fun w' (hw' : Below W3.heap.size W3 w') => (hw'.cell (p := ⟨W1.heap.size, 5, none⟩) hwl3).trans z5
  have r6 := fun w' (hw' : Below W3.heap.size W3 w') => (hw'.cell (p := ⟨W1.heap.size, 6, none⟩) hwl3).trans z6
  have r7 := fun w' (hw' : Below W3.heap.size W3 w') => (hw'.cell (p := ⟨W1.heap.size, 7, none⟩) hwl3).trans z7
  have hb0 : Below W3.heap.size W3 W3 := Below.refl _ _
  clear z0 z1 z2 z3 z4 z5 z6 z7
  go_upto_region 3 with fail
  go_cut [15, 16] (fun s15 s16 wx => ∃ nC, s15 = .pointer (some ⟨nC, 0, none⟩) ∧ s16 = .int .i64 0 ∧ DifCut W3 wx (andH g (notH h)) nC)
  case first =>
    go_region_held3 (fun w' => Below W3.heap.size W3 w')
      (repeat (first | assumption | with_reducible refine Below.drew ?_ | with_reducible refine bt (a := W3) ?_ br | with_reducible refine bt (a := W3) ?_ br2 | with_reducible refine bal ?_ _ | with_reducible exact set4 (by assumption) (by first | exact Nat.le_refl _ | exact hsz | exact hsz2) _ _ _ _))
      (first
        | (go_at_call 25; refine (HN.out _ (by assumption)).mono ?_; rintro e WA ⟨P, p, Q, q, R, r, rfl, hVN, br⟩; have hbw : Below W3.heap.size W3 WA := bt (by assumption) br; have hsz := hbw.size; (try (have hn1 := New4.one0 br; obtain ⟨g10, g11, g12, g13, g14, g15, g16, g17⟩ := hn1.facts)))
        | (go_at_call 27; refine (HA.out WA _ _ _ _ _ _ _ _ hVN (by first | exact Below.refl _ _ | exact (Below.refl _ _).alloc (Nat.le_refl _) _) (by assumption)).mono ?_; rintro e WB ⟨P5, p5, Q5, q5, R5, r5, rfl, hVA, br2⟩; have hbw2 : Below W3.heap.size W3 WB := bt (by assumption) br2; have hsz2 := hbw2.size; (try (have hn2 := New4.one br2; obtain ⟨g20, g21, g22, g23, g24, g25, g26, g27⟩ := hn2.facts)); (try (have hn3 := New4.on hn1 br2; obtain ⟨g30, g31, g32, g33, g34, g35, g36, g37⟩ := hn3.facts))))
    all_goals
      go_wp2_with fail
      go_meet
      first
        | with_reducible exact ⟨_, rfl, rfl, DifCut.after hVA hbw2⟩
        | with_reducible exact ⟨_, rfl, rfl, DifCut.set hVA hbw2 hn2 (lt_al _ _) hsz⟩
        | with_reducible exact ⟨_, rfl, rfl, DifCut.set hVA hbw2 hn3 hn1.lt (Nat.le_refl _)⟩
  case rest =>
    obtain ⟨nC, rfl, rfl, A4, p1, B4, p2, C4, p3, hxC, hVC, hb4⟩ := hcut
    rename World => W4
    have hokA := and_ok hO (notH_ok hO') (show g.labs.length = (notH h).labs.length from HLE.out)
    have HOA := Lib.hid hokA
    have HLS := Lib.hid (Least_any hVC hokA (by decide))
    have q0 := Lib.cell_of_heap hxC 0
    have q1 := Lib.cell_of_heap hxC 1
    have q2 := Lib.cell_of_heap hxC 2
    have q3 := Lib.cell_of_heap hxC 3
    simp only [List.getElem?_toArray, List.getElem?_cons_zero, List.getElem?_cons_succ] at q0 q1 q2 q3
    have HB4 := Lib.hid (HB3.out.trans (hb4.mono HB3.out.size))
    have HB34 := Lib.hid hb4
    clear hokA hVC hxC hb4 HN HA
    go_wp2_with fail
    refine HLS.out.mono ?_
    intro e W5 hR
    obtain ⟨A5, n5, c5, b5, rfl⟩ := hR.shape
    have HR5 := Lib.hid hR
    have HB35 := Lib.hid (HB34.out.trans (hR.1.mono HB34.out.size))
    have HV5 := Lib.hid (And.intro (HV3.out.1.on HB35.out) (HV3.out.2.on HB35.out))
    have HT5 := Lib.hid ((SlP.keep HT3.out fun p hp => HB35.out.cell hp).more fun b hb => Nat.lt_of_lt_of_le hb HB35.out.size)
    have r50 := r0 W5 HB35.out
    have r51 := r1 W5 HB35.out
    have r52 := r2 W5 HB35.out
    have r53 := r3 W5 HB35.out
    have r54 := r4 W5 HB35.out
    have r55 := r5 W5 HB35.out
    have r56 := r6 W5 HB35.out
    have r57 := r7 W5 HB35.out
    clear hR q0 q1 q2 q3 HLS
    have HA5 := Lib.hid (raccepts_any (kc := c4) HV5.out.1 hO (by decide) HT5.out hcp3)
    have HAH : Hid (∀ w', Below W5.heap.size W5 w' → Calls Try.prog 17 #[hdVal h A2 d1 B2 d2 C2 d3, .slice A3 l3.length c4] w' fun e w'' => e = .returned (.bool (accB h.mc l3)) ∧ Below w'.heap.size w' w'') :=
      Lib.hid fun w' hw' => raccepts_any (kc := c4) (HV5.out.2.on hw') hO' (by decide) ((SlP.keep HT5.out fun p hp => hw'.cell hp).more fun b hb => Nat.lt_of_lt_of_le hb hw'.size) hcp3
    have HDF := Lib.hid (fun hd : (accB g.mc l3 && !accB h.mc l3) = true => differ_of hO hO' HLE.out HLB.out hd)
    generalize hag : accB g.mc l3 = ag at *
    generalize hah : accB h.mc l3 = ah at *
    clear hag hah
    go_upto_region 7 with fail
    go_cut [19] (fun s19 wx => s19 = .bool (ag && !ah) ∧ Below W5.heap.size W5 wx)
    case first =>
      go_wp2_with fail
      refine HA5.out.mono ?_
      rintro e W6 ⟨rfl, b6⟩
      cases ag with
      | false =>
        go_wp2_with fail
        go_meet
        exact ⟨rfl, b6⟩
      | true =>
        have r64 := r4 W6 (bt HB35.out b6)
        have r65 := r5 W6 (bt HB35.out b6)
        have r66 := r6 W6 (bt HB35.out b6)
        have r67 := r7 W6 (bt HB35.out b6)
        go_wp2_with fail
        refine (HAH.out _ b6).mono ?_
        rintro e W7 ⟨rfl, b7⟩
        cases ah with
        | false =>
          go_wp2_with fail
          go_meet
          exact ⟨rfl, bt b6 b7⟩
        | true =>
          go_wp2_with fail
          go_meet
          exact ⟨rfl, bt b6 b7⟩
    case rest =>
      obtain ⟨rfl, b6⟩ := hcut
      rename World => W6
      have HB36 := Lib.hid (HB35.out.trans (b6.mono HB35.out.size))
      have HB56 := Lib.hid b6
      have HV6 := Lib.hid (And.intro (HV3.out.1.on HB36.out) (HV3.out.2.on HB36.out))
      clear b6 r50 r51 r52 r53 r54 r55 r56 r57 HA5 HAH
      generalize hdf : (ag && !ah) = df at *
      clear hdf
      have R0 := fun w' (hw' : Below W6.heap.size W6 w') => r0 w' (bt HB36.out hw')
      have R1 := fun w' (hw' : Below W6.heap.size W6 w') => r1 w' (bt HB36.out hw')
      have R2 := fun w' (hw' : Below W6.heap.size W6 w') => r2 w' (bt HB36.out hw')
      have R3 := fun w' (hw' : Below W6.heap.size W6 w') => r3 w' (bt HB36.out hw')
      have R4 := fun w' (hw' : Below W6.heap.size W6 w') => r4 w' (bt HB36.out hw')
      have R5 := fun w' (hw' : Below W6.heap.size W6 w') => r5 w' (bt HB36.out hw')
      have R6 := fun w' (hw' : Below W6.heap.size W6 w') => r6 w' (bt HB36.out hw')
      have R7 := fun w' (hw' : Below W6.heap.size W6 w') => r7 w' (bt HB36.out hw')
      have HN : Hid (∀ w', Below W6.heap.size W6 w' → Calls Try.prog 25 #[hdVal h A2 d1 B2 d2 C2 d3] w' (NotRet w' h)) := Lib.hid fun w' hw' => Not_any (HV6.out.2.on hw') hO' hhl
      have HC : Hid (∀ (w1 : World) (P : Option Addr) (p : Nat) (Q : Option Addr) (q : Nat) (R : Option Addr) (r lo : Nat), HdV w1 (fun b => lo ≤ b ∧ b < w1.heap.size) (notH h) P p Q q R r → Below W6.heap.size W6 w1 → Calls Try.prog 28 #[hdVal g A1 c1 B1 c2 C1 c3, hdVal (notH h) P p Q q R r] w1 (LeastRet (andH g (notH h)).mc w1)) :=
        Lib.hid fun w1 P p Q q R r lo h1 h3 => Common_any (HV6.out.1.on h3) (h1.more fun b hb => hb.2) hO (notH_ok hO') HLE.out
      have hb0 : Below W6.heap.size W6 W6 := Below.refl _ _
      clear r0 r1 r2 r3 r4 r5 r6 r7
      go_upto_region 8 with fail
      go_cut [20, 21] (fun s20 s21 wx => ∃ A n c b, s20 = .slice A n c ∧ s21 = .bool b ∧ LeastRet (andH g (notH h)).mc W6 (.returned (.tuple #[.slice A n c, .bool b])) wx)
      case first =>
        go_region_held3 (fun w' => Below W6.heap.size W6 w')
          (repeat (first | assumption | with_reducible refine Below.drew ?_ | with_reducible refine bt (a := W6) ?_ br))
          (first
            | (go_at_call 25; refine (HN.out _ (by assumption)).mono ?_; rintro e WA ⟨P, p, Q, q, R, r, rfl, hVN, br⟩; have hbw : Below W6.heap.size W6 WA := bt (by assumption) br)
            | (go_at_call 28; refine (HC.out WA _ _ _ _ _ _ _ hVN hbw).mono ?_; intro e WB hRC; have hRD := hRC.from hbw; obtain ⟨P5, m5, p5, bb, rfl⟩ := hRC.shape; have br := hRC.1))
        all_goals
          go_wp2_with fail
          go_meet
          exact ⟨_, _, _, _, rfl, rfl, hRD⟩
      case rest =>
        obtain ⟨A7, n7, c7, b7, rfl, rfl, hRC⟩ := hcut
        rename World => W7
        have HR7 := Lib.hid hRC
        have HB67 := Lib.hid hRC.1
        have s0 := R0 W7 hRC.1
        have s1 := R1 W7 hRC.1
        have s2 := R2 W7 hRC.1
        have s3 := R3 W7 hRC.1
        have hg0 : g.labs.length ≠ 0 := by have := HL3.out.1; omega
        have RR := Lib.hid (fun w' hw' => And.intro (R0 w' hw') (And.intro (R1 w' hw') (And.intro (R2 w' hw') (And.intro (R3 w' hw') (And.intro (R4 w' hw') (And.intro (R5 w' hw') (And.intro (R6 w' hw') (R7 w' hw'))))))))
        clear hRC R0 R1 R2 R3 R4 R5 R6 R7 HN HC hb0
        go_wp2_with fail
        refine (Common_none hg0 (by omega) (by omega)).mono ?_
        rintro e W8 ⟨rfl, b8⟩
        have hb8 : Below W7.heap.size W7 W8 := bt (by (repeat (first | exact Below.refl _ _ | with_reducible refine bal ?_ _))) b8
        have HB68 := Lib.hid (bt HB67.out hb8)
        have HB58 := Lib.hid (bt HB56.out HB68.out)
        have HB78 := Lib.hid hb8
        have HBW8 := Lib.hid (show Below w.heap.size w W8 from HB3.out.trans (Below.mono (bt HB36.out HB68.out) HB3.out.size))
        clear b8 hb8 s0 s1 s2 s3 hg0
        rcases HR5.out.2 with ⟨A9, c9, lw, e1, e2, e3, e4, e5, e6⟩ | ⟨e1, e2⟩
        · injection e1 with e1
          injection e1 with e1
          simp only [Array.mk.injEq, List.cons.injEq, and_true, Value.slice.injEq, Value.bool.injEq] at e1
          obtain ⟨⟨rfl, rfl, rfl⟩, rfl⟩ := e1
          rcases HR7.out.2 with ⟨A10, c10, lm, f1, f2, f3, f4, f5, f6⟩ | ⟨f1, f2⟩
          · injection f1 with f1
            injection f1 with f1
            simp only [Array.mk.injEq, List.cons.injEq, and_true, Value.slice.injEq, Value.bool.injEq] at f1
            obtain ⟨⟨rfl, rfl, rfl⟩, rfl⟩ := f1
            have hwe : ((wtTs lm : Nat) : Int) = ((wtTs lw : Nat) : Int) := by
              have h1 := e6 lm f4
              have h2 := f6 lw e4
              omega
            have hdw := differ_some hO hO' HLE.out e4
            have hdm := differ_some hO hO' HLE.out f4
            have hge : df = true → ((wtTs lw : Nat) : Int) ≤ ((wtTs l3 : Nat) : Int) := fun hd => by
              have := e6 l3 (HDF.out hd)
              omega
            have HGE := Lib.hid hge
            have hTw : SlP W8 (fun b => b < W8.heap.size) 2 A5 lw.length (trsC lw) := (SlP.keep e3 fun p hp => HB58.out.cell hp.2).more fun b hb => Nat.lt_of_lt_of_le hb.2 HB58.out.size
            have hTm : SlP W8 (fun b => b < W8.heap.size) 2 A7 lm.length (trsC lm) := (SlP.keep f3 fun p hp => HB78.out.cell hp.2).more fun b hb => Nat.lt_of_lt_of_le hb.2 HB78.out.size
            have hTl : SlP W8 (fun b => b < W8.heap.size) 2 A3 l3.length (trsC l3) := (SlP.keep HT5.out fun p hp => HB58.out.cell hp).more fun b hb => Nat.lt_of_lt_of_le hb HB58.out.size
            have hV8 := And.intro (HV6.out.1.on HB68.out) (HV6.out.2.on HB68.out)
            have hm {l' : List Tr} {P : Option Addr} (hS : SlP W8 (fun b => b < W8.heap.size) 2 P l'.length (trsC l')) (w' : World) (hw' : Below W8.heap.size W8 w') : SlP w' (fun b => b < w'.heap.size) 2 P l'.length (trsC l') := (SlP.keep hS fun p hp => hw'.cell hp).more fun b hb => Nat.lt_of_lt_of_le hb hw'.size
            have HWm := Lib.hid (fun w' (hw' : Below W8.heap.size W8 w') => show Calls Try.prog 19 #[.slice A7 lm.length c7] w' fun e w'' => e = .returned (.int .i64 ((wtTs lw : Nat) : Int)) ∧ Below w'.heap.size w' w'' from by
              have h9 := rweight_any lm w' A7 c7 (hm hTm w' hw') (by omega)
              rw [hwe] at h9
              exact h9)
            have HWw := Lib.hid (fun w' (hw' : Below W8.heap.size W8 w') => rweight_any lw w' A5 c5 (hm hTw w' hw') (by omega))
            have HWl := Lib.hid (fun w' (hw' : Below W8.heap.size W8 w') => rweight_any l3 w' A3 c4 (hm hTl w' hw') (by omega))
            have HAam := Lib.hid (fun w' (hw' : Below W8.heap.size W8 w') => show Calls Try.prog 17 #[hdVal g A1 c1 B1 c2 C1 c3, .slice A7 lm.length c7] w' fun e w'' => e = .returned (.bool true) ∧ Below w'.heap.size w' w'' from by
              have h9 := raccepts_any (kc := c7) (hV8.1.on hw') hO (by decide) (hm hTm w' hw') f2
              rw [hdm.1] at h9
              exact h9)
            have HAbm := Lib.hid (fun w' (hw' : Below W8.heap.size W8 w') => show Calls Try.prog 17 #[hdVal h A2 d1 B2 d2 C2 d3, .slice A7 lm.length c7] w' fun e w'' => e = .returned (.bool false) ∧ Below w'.heap.size w' w'' from by
              have h9 := raccepts_any (kc := c7) (hV8.2.on hw') hO' (by decide) (hm hTm w' hw') f2
              rw [hdm.2] at h9
              exact h9)
            have HAaw := Lib.hid (fun w' (hw' : Below W8.heap.size W8 w') => show Calls Try.prog 17 #[hdVal g A1 c1 B1 c2 C1 c3, .slice A5 lw.length c5] w' fun e w'' => e = .returned (.bool true) ∧ Below w'.heap.size w' w'' from by
              have h9 := raccepts_any (kc := c5) (hV8.1.on hw') hO (by decide) (hm hTw w' hw') e2
              rw [hdw.1] at h9
              exact h9)
            have HAbw := Lib.hid (fun w' (hw' : Below W8.heap.size W8 w') => show Calls Try.prog 17 #[hdVal h A2 d1 B2 d2 C2 d3, .slice A5 lw.length c5] w' fun e w'' => e = .returned (.bool false) ∧ Below w'.heap.size w' w'' from by
              have h9 := raccepts_any (kc := c5) (hV8.2.on hw') hO' (by decide) (hm hTw w' hw') e2
              rw [hdw.2] at h9
              exact h9)
            clear hwe hdw hdm hge hTw hTm hTl hV8 hm e2 e3 e4 e5 e6 f2 f3 f4 f5 f6
            generalize ((wtTs lw : Nat) : Int) = nw at *
            generalize ((wtTs l3 : Nat) : Int) = nl at *
            have hnn : (nw == nw) = true := by simp
            have hnn2 : (nw != nw) = false := by simp
            go_wp2_with fail
            refine (HWm.out _ (Below.refl _ _)).mono ?_
            rintro e W9 ⟨rfl, b9⟩
            go_wp2_with fail
            refine (HWw.out _ b9).mono ?_
            rintro e W10 ⟨rfl, b10⟩
            have h10 := bt b9 b10
            obtain ⟨t0, t1, t2, t3, t4, t5, t6, t7⟩ := RR.out W10 (bt HB68.out h10)
            clear b9 b10
            go_wp2_with fail
            refine (HAam.out _ h10).mono ?_
            rintro e W11 ⟨rfl, b11⟩
            have h11 := bt h10 b11
            clear t0 t1 t2 t3 t4 t5 t6 t7 h10 b11
            obtain ⟨t0, t1, t2, t3, t4, t5, t6, t7⟩ := RR.out W11 (bt HB68.out h11)
            go_wp2_with fail
            refine (HAbm.out _ h11).mono ?_
            rintro e W12 ⟨rfl, b12⟩
            have h12 := bt h11 b12
            clear t0 t1 t2 t3 t4 t5 t6 t7 h11 b12
            obtain ⟨t0, t1, t2, t3, t4, t5, t6, t7⟩ := RR.out W12 (bt HB68.out h12)
            go_wp2_with fail
            refine (HAaw.out _ h12).mono ?_
            rintro e W13 ⟨rfl, b13⟩
            have h13 := bt h12 b13
            clear t0 t1 t2 t3 t4 t5 t6 t7 h12 b13
            obtain ⟨t0, t1, t2, t3, t4, t5, t6, t7⟩ := RR.out W13 (bt HB68.out h13)
            go_wp2_with fail
            refine (HAbw.out _ h13).mono ?_
            rintro e W14 ⟨rfl, b14⟩
            have h14 := bt h13 b14
            clear t0 t1 t2 t3 t4 t5 t6 t7 h13 b14
            cases df with
            | false =>
              go_wp2_with fail
              refine (lives_any _).mono ?_
              rintro e W15 ⟨rfl, b15⟩
              have HBF := Lib.hid (HBW8.out.trans (Below.mono (bt h14 b15) HBW8.out.size))
              clear b15
              go_wp2
              go_ret
              exact ⟨rfl, HBF.out⟩
            | true =>
              have hle := HGE.out rfl
              go_wp2_with fail
              refine (HWl.out _ h14).mono ?_
              rintro e W15 ⟨rfl, b15⟩
              have h15 := bt h14 b15
              clear b15
              go_wp2_with fail
              refine (HWw.out _ h15).mono ?_
              rintro e W16 ⟨rfl, b16⟩
              have h16 := bt h15 b16
              clear b16
              go_wp2_with fail
              refine (lives_any _).mono ?_
              rintro e W17 ⟨rfl, b17⟩
              have HBF := Lib.hid (HBW8.out.trans (Below.mono (bt h16 b17) HBW8.out.size))
              clear b17
              go_wp2
              go_ret
              exact ⟨rfl, HBF.out⟩
          · have := f2 lw e4
            omega
        · rcases HR7.out.2 with ⟨A10, c10, lm, f1, f2, f3, f4, f5, f6⟩ | ⟨f1, f2⟩
          · have := e2 lm f4
            omega
          · injection e1 with e1
            injection e1 with e1
            simp only [Array.mk.injEq, List.cons.injEq, and_true, Value.slice.injEq, Value.bool.injEq] at e1
            obtain ⟨⟨rfl, rfl, rfl⟩, rfl⟩ := e1
            injection f1 with f1
            injection f1 with f1
            simp only [Array.mk.injEq, List.cons.injEq, and_true, Value.slice.injEq, Value.bool.injEq] at f1
            obtain ⟨⟨rfl, rfl, rfl⟩, rfl⟩ := f1
            have hdf : df = false := by
              cases hd : df with
              | false => rfl
              | true =>
                have := e2 l3 (HDF.out hd)
                omega
            subst hdf
            have HW0 := Lib.hid (fun (w' : World) => show Calls Try.prog 19 #[.slice none 0 0] w' fun e w'' => e = .returned (.int .i64 0) ∧ Below w'.heap.size w' w'' from rweight_any [] w' none 0 (SlP.nil _ _ _ _) (by simp [wtTs]))
            clear e2 f2
            go_wp2_with fail
            refine (HW0.out _).mono ?_
            rintro e W9 ⟨rfl, b9⟩
            go_wp2_with fail
            refine (HW0.out _).mono ?_
            rintro e W10 ⟨rfl, b10⟩
            have h10 := bt b9 b10
            clear b9 b10
            go_wp2_with fail
            refine (lives_any _).mono ?_
            rintro e W15 ⟨rfl, b15⟩
            have HBF := Lib.hid (HBW8.out.trans (Below.mono (bt h10 b15) HBW8.out.size))
            clear b15
            go_wp2
            go_ret
            exact ⟨rfl, HBF.out⟩
end Go.Proofs.Ytbipdnnalhdoaaa
