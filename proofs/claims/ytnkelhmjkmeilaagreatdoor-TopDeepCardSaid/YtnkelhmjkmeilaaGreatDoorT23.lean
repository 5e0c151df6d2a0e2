/- The finder's run. -/
import Derived.Test.YtnkelhmjkmeilaaGreatDoorT22
section
namespace Go.Proofs.YtnkelhmjkmeilaaGreatDoor.H
open Go.RowKit Go.Maps Go.WideMaps
attribute [local go_sem ↓] Go.wp_at_zero Go.wp_at_succ
set_option maxHeartbeats 4000000 in
set_option maxRecDepth 100000 in
theorem run_any {w0 w : World} {own : FOwn} {base fb mm mf N cur : Nat} {mv : Value} {f : FS} {M : Mc} (h : FIs w own base fb mm mf mv f) (hM : MachAt w0 mv M) (hO : M.Ok) (hN : N ≤ M.L + 1) (hb : Below w0.heap.size w0 w) (hB : w0.heap.size ≤ base)
    (hI : FInv M N N cur f (fun _ _ _ => False) (fun _ _ => False)) (hH : Heap f.q) (hl : f.q.length ≤ 1000 + 50000 * sumL f.met) (hR : NoRoot M f) (hOL : ∀ s, s < M.sz M.L → M.out M.L s ≤ 1000) :
    Calls Tryz.prog 111 #[.pointer (some ⟨fb, 0, none⟩)] w fun e w' => ∃ own' f', FIs w' own' base fb mm mf mv f' ∧ FStep w w' own own' ∧ RunOut M N f' e := by
  have hB1 := (Below.refl _ w).alloc (Nat.le_refl _) (.cells #[.int .i64 0, .int .i64 0, .int .i64 0, .int .i64 0, .int .i64 0] 200)
  have hx := heap_alloc_new w (.cells #[.int .i64 0, .int .i64 0, .int .i64 0, .int .i64 0, .int .i64 0] 200)
  have h1 := h.below hB1 (Nat.le_refl _)
  have hsz : (w.alloc (.cells #[.int .i64 0, .int .i64 0, .int .i64 0, .int .i64 0, .int .i64 0] 200)).heap.size = w.heap.size + 1 := World.size_alloc _ _
  have H0 := Lib.hid h
  have HMA := Lib.hid hM
  clear hM
  have hw0 := hb.size
  go_enter Tryz.func111, Tryz.ntmps111
  go_wp2
  generalize w.alloc (.cells #[.int .i64 0, .int .i64 0, .int .i64 0, .int .i64 0, .int .i64 0] 200) = W1 at *
  have hno : own w.heap.size = none := by
    cases ho : own w.heap.size with
    | none => rfl
    | some r => have := (h.lt _ r ho).2; omega
  go_loopg [] (pot f) (fun gk wr => ∃ (own1 : FOwn) (f1 : FS) (cur1 : Nat), gk = pot f1 ∧ FIs wr own1 base fb mm mf mv f1 ∧ FInv M N N cur1 f1 (fun _ _ _ => False) (fun _ _ => False) ∧ Hid (Heap f1.q ∧ f1.q.length ≤ 1000 + 50000 * sumL f1.met ∧ NoRoot M f1) ∧ FStep W1 wr own own1)
  case atStart => exact ⟨own, f, cur, rfl, h1, hI, ⟨hH, hl, hR⟩, FStep.refl _ _⟩
  case round =>
    obtain ⟨own1, f1, cur1, rfl, hF1, hI1, hq1, hS1⟩ := hrel
    obtain ⟨A, c, AM, cM, AT, cT, MV, b1, ⟨b2, b3⟩, _⟩ := hF1.blk
    have k1 := Lib.cell_of_heap b1 1
    simp only [List.getElem?_toArray, List.getElem?_cons_zero, List.getElem?_cons_succ] at k1
    have hx1 : wr.heap[w.heap.size]? = _ := (hS1.kb.block w.heap.size (by omega) (fun h => h hno)).trans hx
    have hno1 : own1 w.heap.size = none := by
      cases ho : own1 w.heap.size with
      | none => rfl
      | some r =>
        rcases hS1.inv _ r ho with h9 | h9
        · rw [hno] at h9; cases h9
        · omega
    have HX1 := Lib.hid hx1
    have HB1 := Lib.hid hB1
    have HF1 := Lib.hid hF1
    have HI1 := Lib.hid hI1
    have HS1 := Lib.hid hS1
    have HBR := Lib.hid (And.intro b1 (And.intro b2 b3))
    have HNO := Lib.hid hno1
    have HHX := Lib.hid hx
    have hpush : 0 < f1.q.length ∨ f1.q = [] := by
      cases f1.q with
      | nil => exact .inr rfl
      | cons a l => exact .inl (by simp)
    clear hI hH hR h h1 hF1 hI1 hS1 b1 b2 b3 hx hx1 hB1 hno1
    rcases hpush with hpos | hnil
    · have hfew := HI1.out.few hO hN
      have hql : f1.q.length < 1000000000000 := by have := hq1.out.2.1; omega
      obtain ⟨b1, b2, b3⟩ := HBR.out
      obtain ⟨nm, hmm⟩ := HF1.out.mks
      have hbr := (HF1.out.lt fb _ HF1.out.fin)
      have hQ : QIs wr base fb 1 244 (finC mv A f1.q.length c mm AM f1.met.length cM AT f1.trees.length cT mf) A c f1.q :=
        ⟨b1, rfl, b2, fun e => by have := b3 fb e; rw [HF1.out.fin] at this; injection this with this; cases this⟩
      have HPOP := Lib.hid (hpop_any hQ hpos hql hq1.out.1)
      have hta := assert_step
      have hposI : (0 : Int) < (f1.q.length : Int) := by omega
      clear b1 b2 b3 hmm hQ
      go_wp2_with fail
      refine HPOP.out.mono ?_
      rintro e W2 ⟨s, q', rfl, hp, hmin, hh, hqo⟩
      obtain ⟨own2, hF2, hS2, hU2⟩ := FIs.pushed HF1.out HBR.out.1 (W3 := wr) (HF1.out.mks.choose_spec) (grown_refl _ _) (Nat.le_refl _) hqo
      have hs2 := hS2.kb.size
      have hB3 := (Below.refl _ W2).alloc (Nat.le_refl _) (.cells #[.int .i64 (s.num : Int), .int .i64 (s.st : Int), .int .i64 (s.cost : Int), .int .i64 s.frm, .int .i64 s.tree] 200)
      have hx3 := heap_alloc_new W2 (.cells #[.int .i64 (s.num : Int), .int .i64 (s.st : Int), .int .i64 (s.cost : Int), .int .i64 s.frm, .int .i64 s.tree] 200)
      have hsz3 : (W2.alloc (.cells #[.int .i64 (s.num : Int), .int .i64 (s.st : Int), .int .i64 (s.cost : Int), .int .i64 s.frm, .int .i64 s.tree] 200)).heap.size = W2.heap.size + 1 := World.size_alloc _ _
      have HS2 := Lib.hid hS2
      have HF2 := Lib.hid hF2
      have HP2 := Lib.hid (And.intro hp (And.intro hmin hh))
      clear hqo hF2 hS2 hU2 hp hmin hh
      go_upto_region 3 with fail
      generalize W2.alloc (.cells #[.int .i64 (s.num : Int), .int .i64 (s.st : Int), .int .i64 (s.cost : Int), .int .i64 s.frm, .int .i64 s.tree] 200) = W3 at *
      obtain ⟨f2, hf2⟩ : ∃ f2 : FS, f2 = { f1 with q := q', mar := f1.mar } := ⟨_, rfl⟩
      have hsq : s ∈ f1.q := HP2.out.1.mem_iff.2 (List.mem_cons_self)
      obtain ⟨hrd, hch, hcu, k, d, hk, hkc⟩ := HI1.out.qs s hsq
      have hfin := hrd.fin hO hN
      have hnb : s.num ≤ 1000000000000 := by have := hO.fewL; omega
      have hsb : s.st ≤ 1000000000000 := by have := hO.fewS s.num (by omega); omega
      obtain ⟨l, hkey⟩ := keyPl hnb hsb
      have hF3 : FIs W3 own2 base fb mm mf mv f2 := by rw [hf2]; exact HF2.out.below hB3 (Nat.le_refl _)
      obtain ⟨n3, hm3⟩ := hF3.mks
      have hmk2 : f2.mar = f1.mar := by rw [hf2]
      rw [hmk2] at hm3
      have hlk := hm3.drew.look placeK Tryz.underlying239 (zMk W3.drew) hkey false
      rw [mkF_at, hk] at hlk
      have hlk' : (Instr.lookup 239 (.map (some mm)) (.agg #[.int .i64 (s.num : Int), .int .i64 (s.st : Int)]) false).run Tryz.prog W3.drew = .ok (.agg #[.int .i64 (k.num : Int), .int .i64 (k.st : Int), .int .i64 (k.cost : Int), .int .i64 k.frm, .int .i64 k.tree, .bool d]) W3.drew := hlk
      obtain ⟨A4, c4, AM4, cM4, AT4, cT4, MV4, e1, _⟩ := hF3.blk
      have c2 := Lib.cell_of_heap e1 2
      have c0 := Lib.cell_of_heap e1 0
      have x0 := Lib.cell_of_heap hx3 0
      have x1 := Lib.cell_of_heap hx3 1
      simp only [List.getElem?_toArray, List.getElem?_cons_zero, List.getElem?_cons_succ] at c0 c2 x0 x1
      have HF3 := Lib.hid hF3
      have HB3 := Lib.hid hB3
      have HX3 := Lib.hid hx3
      have HK := Lib.hid (And.intro hk hkc)
      have HKEY := Lib.hid (show ∃ (_ : True), ∃ l, keyOf Tryz.prog 198 (plV s.num s.st) = some l from ⟨trivial, l, hkey⟩)
      have HRD := Lib.hid (And.intro hrd (And.intro hch hcu))
      have HFE := Lib.hid hf2
      have fd := fld_dn
      clear hlk hm3 hmk2 hk hkey hF3 hB3 hx3 e1 hf2 hrd hch k1 hta
      go_cut [30] (fun s30 wx => s30 = .bool d ∧ wx = W3.drew)
      case first =>
        go_region_held3 (fun w' => w' = W3.drew ∧ (Instr.lookup 239 (.map (some mm)) (.agg #[.int .i64 (s.num : Int), .int .i64 (s.st : Int)]) false).run Tryz.prog w' = .ok (.agg #[.int .i64 (k.num : Int), .int .i64 (k.st : Int), .int .i64 (k.cost : Int), .int .i64 k.frm, .int .i64 k.tree, .bool d]) w' ∧
            w'.cell? ⟨fb, 2, none⟩ = some (.map (some mm)) ∧ w'.cell? ⟨W2.heap.size, 0, none⟩ = some (.int .i64 (s.num : Int)) ∧ w'.cell? ⟨W2.heap.size, 1, none⟩ = some (.int .i64 (s.st : Int)))
          (first
            | exact ⟨rfl, hlk', c2, x0, x1⟩
            | go_keep)
          (fail)
        all_goals
          go_wp2_with fail
          go_meet
          exact ⟨rfl, rfl⟩
      case rest =>
        obtain ⟨rfl, rfl⟩ := hcut
        clear hlk' fd
        cases d with
        | true =>
          have hI2 : FInv M N N cur1 f2 (fun _ _ _ => False) (fun _ _ => False) := by rw [HFE.out]; exact HI1.out.skip HP2.out.1 HK.out.1
          have HI2 := Lib.hid hI2
          have HQ2 := Lib.hid (show Heap f2.q ∧ f2.q.length ≤ 1000 + 50000 * sumL f2.met ∧ NoRoot M f2 ∧ pot f2 < pot f1 from by
            rw [HFE.out]
            have hlen := HP2.out.1.length_eq
            have := hq1.out.2.1
            simp only [List.length_cons] at hlen
            refine ⟨HP2.out.2.2, by show q'.length ≤ 1000 + 50000 * sumL f1.met; omega, hq1.out.2.2, ?_⟩
            show 50000 * (40400 - sumL f1.met) + q'.length < 50000 * (40400 - sumL f1.met) + f1.q.length
            omega)
          have HS3 := Lib.hid ((HS1.out.trans HS2.out).trans ((FStep.of_below HB3.out).trans (FStep.of_below (Below.drew (Below.refl _ W3)))))
          clear hI2
          go_wp2
          go_roundg (pot f2)
          case measure => exact HQ2.out.2.2.2
          case rel => exact ⟨own2, f2, cur1, rfl, HF3.out.below (Below.drew (Below.refl _ W3)) (Nat.le_refl _), HI2.out, ⟨HQ2.out.1, HQ2.out.2.1, HQ2.out.2.2.1⟩, HS3.out⟩
        | false =>
          obtain ⟨T, v, Fl, Fn, Fo, hmv, mL, mN, mO, cL, cN, cO, kL, kN, kO⟩ := HMA.out
          rw [hmv] at c0
          have HMV := Lib.hid hmv
          have hnd : ∀ k', f1.mar s.num s.st ≠ some (k', true) := fun k' h9 => by
            rw [HK.out.1] at h9
            injection h9 with h9
            injection h9 with _ h9
            cases h9
          have hD := HI1.out.done hO hN HP2.out.1 HP2.out.2.1 hnd
          have HD := Lib.hid hD
          obtain ⟨n4, hm4⟩ := HF3.out.mks
          obtain ⟨W4, hset, hm5, hg5⟩ := MapIs.set (w := W3.drew.drew) hm4 placeK Tryz.underlying239 HKEY.out.choose_spec.choose_spec (val := .agg #[.int .i64 (s.num : Int), .int .i64 (s.st : Int), .int .i64 (s.cost : Int), .int .i64 s.frm, .int .i64 s.tree, .bool true]) (f' := mkF (upM f2.mar s.num s.st (s, true))) (mkF_up f2.mar s.num s.st (s, true)) (mkF_ne f2.mar s.num s.st (s, true))
          have hset' : (Instr.mapUpdate 239 (.map (some mm)) (.agg #[.int .i64 (s.num : Int), .int .i64 (s.st : Int)]) (.agg #[.int .i64 (s.num : Int), .int .i64 (s.st : Int), .int .i64 (s.cost : Int), .int .i64 s.frm, .int .i64 s.tree, .bool true])).run Tryz.prog W3.drew.drew = .ok () W4 := hset
          have hF3d : FIs W3.drew.drew own2 base fb mm mf mv f2 := HF3.out.below (Below.drew (Below.drew (Below.refl _ W3))) (Nat.le_refl _)
          obtain ⟨hF4, hS4⟩ := FIs.marked hF3d hm5 hg5
          obtain ⟨f4, hf4⟩ : ∃ f4 : FS, f4 = { f2 with mar := upM f2.mar s.num s.st (s, true) } := ⟨_, rfl⟩
          rw [← hf4] at hF4
          have hX4 := (hg5.block W2.heap.size (by show _ < W3.heap.size; omega) (fun e => by injection e with e; have := (HF2.out.lt mm _ HF2.out.mkm).2; omega)).trans HX3.out
          have hfbm : fb ≠ mm := HF3.out.ne.1
          have c04 : W4.cell? ⟨fb, 0, none⟩ = some (.iface T v) := (World.cell?_of_block (a := ⟨fb, 0, none⟩) (hg5.block fb (HF3.out.lt fb _ HF3.out.fin).2 (fun e => by injection e with e; exact hfbm e))).trans c0
          have x2 := Lib.cell_of_heap HX3.out 2
          have x3 := Lib.cell_of_heap HX3.out 3
          have x4 := Lib.cell_of_heap HX3.out 4
          have y0 := Lib.cell_of_heap hX4 0
          have y1 := Lib.cell_of_heap hX4 1
          simp only [List.getElem?_toArray, List.getElem?_cons_zero, List.getElem?_cons_succ] at x2 x3 x4 y0 y1
          have HS4 := Lib.hid (((HS1.out.trans HS2.out).trans ((FStep.of_below HB3.out).trans (FStep.of_below (Below.drew (Below.drew (Below.refl _ W3)))))).trans hS4)
          have HF4 := Lib.hid hF4
          have HF4E := Lib.hid hf4
          have HX4 := Lib.hid hX4
          have HW4 := Lib.hid (show Below w0.heap.size w0 W4 from ((FStep.of_below HB1.out).trans HS4.out).below hb hw0 fun q r hq => Nat.le_trans hB (H0.out.lt q r hq).1)
          have hfb4 := (HF4.out.lt fb _ HF4.out.fin).2
          have hwl4 : W2.heap.size < W4.heap.size := (Array.getElem?_eq_some_iff.1 hX4).1
          have HO5 := Lib.hid (kO W4.drew s.num s.st (Below.drew HW4.out) (by omega) hfin.2.1)
          clear hset hm5 hg5 hm4 hF3d hF4 hS4 hf4 hX4 hD hnd kO kN
          go_upto_region 4 with fail
          go_region
          clear hset' x0 x1 x2 x3 x4 c0 c2
          obtain ⟨ov, hov⟩ : ∃ ov, ov = M.out s.num s.st := ⟨_, rfl⟩
          rw [← hov] at HO5
          have HOV := Lib.hid hov
          clear hov
          go_upto_region 5 with fail
          go_cut [5] (fun s5 wx => s5 = .int .i64 (ov : Int) ∧ Below W4.heap.size W4 wx)
          case first =>
            go_region_held3 (fun w' => w'.cell? ⟨fb, 0, none⟩ = some (.iface T v) ∧ w'.cell? ⟨W2.heap.size, 0, none⟩ = some (.int .i64 (s.num : Int)) ∧ w'.cell? ⟨W2.heap.size, 1, none⟩ = some (.int .i64 (s.st : Int)))
              (first
                | exact ⟨c04, y0, y1⟩
                | exact ⟨(b2.cell (p := ⟨fb, 0, none⟩) hfb4).trans c04, (b2.cell (p := ⟨W2.heap.size, 0, none⟩) hwl4).trans y0, (b2.cell (p := ⟨W2.heap.size, 1, none⟩) hwl4).trans y1⟩
                | go_keep)
              (first
                | (refine HO5.out.mono ?_; rintro e W5 ⟨rfl, b2⟩))
            all_goals
              go_wp2_with fail
              go_meet
              exact ⟨rfl, (Below.drew (Below.refl _ W4)).trans b2⟩
          case rest =>
            obtain ⟨rfl, b5⟩ := hcut
            rename World => W5
            have c05 := (b5.cell (p := ⟨fb, 0, none⟩) hfb4).trans c04
            have y05 := (b5.cell (p := ⟨W2.heap.size, 0, none⟩) hwl4).trans y0
            have y15 := (b5.cell (p := ⟨W2.heap.size, 1, none⟩) hwl4).trans y1
            have hs5 := b5.size
            have hW5 : Below w0.heap.size w0 W5 := HW4.out.trans (b5.mono HW4.out.size)
            have HO6 := Lib.hid (kL W5.drew (Below.drew hW5))
            have HB5 := Lib.hid b5
            obtain ⟨rv, hrv⟩ : ∃ rv, ((s.num : Int) == (M.L : Int)) = rv := ⟨_, rfl⟩
            have hfb5 : fb < W5.heap.size := by omega
            have hwl5 : W2.heap.size < W5.heap.size := by omega
            clear b5 c04 y0 y1 hW5
            go_upto_region 6 with fail
            go_cut [6] (fun s6 wx => s6 = .bool rv ∧ Below W5.heap.size W5 wx)
            case first =>
              go_region_held3 (fun w' => w'.cell? ⟨fb, 0, none⟩ = some (.iface T v) ∧ w'.cell? ⟨W2.heap.size, 0, none⟩ = some (.int .i64 (s.num : Int)) ∧ w'.cell? ⟨W2.heap.size, 1, none⟩ = some (.int .i64 (s.st : Int)))
                (first
                  | exact ⟨c05, y05, y15⟩
                  | exact ⟨(b2.cell (p := ⟨fb, 0, none⟩) hfb5).trans c05, (b2.cell (p := ⟨W2.heap.size, 0, none⟩) hwl5).trans y05, (b2.cell (p := ⟨W2.heap.size, 1, none⟩) hwl5).trans y15⟩
                  | go_keep)
                (first
                  | (refine HO6.out.mono ?_; rintro e W6 ⟨rfl, b2⟩))
              all_goals
                go_wp2_with fail
                go_meet
                exact ⟨rfl, (Below.drew (Below.refl _ W5)).trans b2⟩
            case rest =>
              obtain ⟨rfl, b6⟩ := hcut
              rename World => W6
              have HRV := Lib.hid hrv
              clear hrv c05 y05 y15
              have hB6 : Below W4.heap.size W4 W6 := HB5.out.trans (b6.mono hs5)
              have hF6 := HF4.out.below hB6 (Nat.le_refl _)
              have hX6 := (hB6.block _ hwl4).trans HX4.out
              have hs6 := b6.size
              have HB6 := Lib.hid hB6
              have hS6 := HS4.out.trans (FStep.of_below (own := own2) hB6)
              have hx6 : W6.heap[w.heap.size]? = _ := (hS6.kb.block w.heap.size (by omega) (fun h => h hno)).trans HHX.out
              obtain ⟨A6, c6, AM6, cM6, AT6, cT6, MV6, d1, _, ⟨d4, d5⟩, d6, _⟩ := hF6.blk
              have HF6 := Lib.hid hF6
              have HX6 := Lib.hid hX6
              have HS6 := Lib.hid hS6
              have HHX6 := Lib.hid hx6
              have HDM := Lib.hid (And.intro d1 (And.intro d4 (And.intro d5 d6)))
              clear hB6 hF6 hX6 hS6 hx6 d1 d4 d5 d6 b6
              by_cases hroot : s.num = M.L ∧ ov = 1
              · have hrt : rv = true := by rw [← HRV.out, hroot.1]; simp
                have hov1 : ((ov : Int) == 1) = true := by rw [hroot.2]; rfl
                subst hrt
                have y0 := Lib.cell_of_heap HX6.out 0
                have y1 := Lib.cell_of_heap HX6.out 1
                have y2 := Lib.cell_of_heap HX6.out 2
                have y3 := Lib.cell_of_heap HX6.out 3
                have y4 := Lib.cell_of_heap HX6.out 4
                have r0 := Lib.cell_of_heap HHX6.out 0
                have r1 := Lib.cell_of_heap HHX6.out 1
                have r2 := Lib.cell_of_heap HHX6.out 2
                have r3 := Lib.cell_of_heap HHX6.out 3
                have r4 := Lib.cell_of_heap HHX6.out 4
                have s0 := Lib.frozen_of_heap HHX6.out 0
                have s1 := Lib.frozen_of_heap HHX6.out 1
                have s2 := Lib.frozen_of_heap HHX6.out 2
                have s3 := Lib.frozen_of_heap HHX6.out 3
                have s4 := Lib.frozen_of_heap HHX6.out 4
                simp only [List.getElem?_toArray, List.getElem?_cons_zero, List.getElem?_cons_succ] at y0 y1 y2 y3 y4 r0 r1 r2 r3 r4
                have HROOT := Lib.hid hroot
                clear hroot
                go_wp2
                have hno2 : own2 w.heap.size = none := by
                  cases ho : own2 w.heap.size with
                  | none => rfl
                  | some r =>
                    rcases HS6.out.inv _ r ho with h9 | h9
                    · rw [hno] at h9; cases h9
                    · omega
                have hmr : f4.mar = upM f1.mar s.num s.st (s, true) := by rw [HF4E.out, HFE.out]
                refine ret_stp rfl rfl rfl rfl (stp_stored HHX6.out _ _ _ _ _) ⟨own2, f4, HF6.out.far hno2 _ _ _ _ _, ((FStep.of_below HB1.out).trans HS6.out).far (Nat.le_refl _) _ _ _ _ _, .inl ⟨s, _, _, _, rfl, HD.out, hmr.symm, by rw [HF4E.out, HFE.out], ?_, HROOT.out.1, ?_, fun s' c' hr' ho' => ?_⟩⟩
                · rw [hmr]; unfold upM; rw [if_pos ⟨rfl, rfl⟩]
                · rw [← HROOT.out.1, ← HOV.out]; exact HROOT.out.2
                · rcases HI1.out.least hO hN HP2.out.2.1 hfin.2.2 hr' with ⟨k9, h9, _⟩ | h9
                  · exact absurd ho' (hq1.out.2.2 _ _ h9)
                  · exact h9
              · go_upto_region 7 with fail
                go_cut [63] (fun s63 wx => s63 = .bool false ∧ wx = W6)
                case first =>
                  cases rv with
                  | false =>
                    go_wp2
                    go_meet
                    exact ⟨rfl, rfl⟩
                  | true =>
                    have hov1 : ((ov : Int) == 1) = false := by
                      have h9 : s.num = M.L := by
                        have := HRV.out
                        simp at this
                        omega
                      have h8 : ov ≠ 1 := fun e => hroot ⟨h9, e⟩
                      simp
                      omega
                    go_wp2
                    go_meet
                    exact ⟨rfl, rfl⟩
                case rest =>
                  obtain ⟨rfl, rfl⟩ := hcut
                  rename World => W6
                  have HROOT := Lib.hid hroot
                  obtain ⟨d1, d4, d5, d6⟩ := HDM.out
                  have hmt4 : f4.met = f1.met := by rw [HF4E.out, HFE.out]
                  have hml4 : f4.met.length = N := by rw [hmt4]; exact HI1.out.ml
                  have him : s.num < f4.met.length := by rw [hml4]; exact hfin.1
                  obtain ⟨Ai, ci, m1, m2, m3⟩ := d6 s.num him
                  have hAM : ∃ g cur, AM6 = some ⟨g, 0, none⟩ ∧ g < W6.heap.size ∧ W6.heap[g]? = some (.cells cur 111 (0, 0)) := by
                    rcases d4.2 with ⟨_, h0⟩ | ⟨g, cap, cur, hv, hb, hg, _⟩
                    · omega
                    · injection hv with hv
                      exact ⟨g, cur, hv, (Array.getElem?_eq_some_iff.1 hg).1, hg⟩
                  obtain ⟨g, cur, rfl, hgl, hgc⟩ := hAM
                  obtain ⟨a, u, hAM, hab, hu, hca⟩ := (Rd.of_own d4).at_ him
                  rw [m1] at hu
                  injection hu with hu
                  subst hu
                  injection hAM with hAM
                  subst hAM
                  have hca' : W6.cell? ⟨g, s.num, none⟩ = some (.slice Ai f4.met[s.num].length ci) := by
                    have h9 : (⟨g, 0, none⟩ : Addr).add s.num = ⟨g, s.num, none⟩ := by
                      unfold Addr.add
                      split
                      · rename_i h8; rw [h8]
                      · simp
                    rw [← h9]; exact hca
                  have hcf := Lib.frozen_of_heap hgc s.num
                  have hlen : f4.met[s.num].length ≤ 40400 := by
                    have e1 := sumL_take him
                    have e2 := sumL_le f4.met (s.num + 1)
                    have e3 := hfew.1
                    rw [← hmt4] at e3
                    omega
                  have hneg : some g ≠ (Value.slice Ai f4.met[s.num].length ci).ownBlock := fun e => by
                    have h8 := m3 g e.symm
                    have h9 := d5 g rfl
                    rw [h8] at h9
                    cases h9
                  have hAi := m1
                  have hfb6 : fb < W6.heap.size := by omega
                  have hbase6 : base ≤ W6.heap.size := by have := (HF6.out.lt fb _ HF6.out.fin).1; omega
                  have k3 := Lib.cell_of_heap d1 3
                  have y0 := Lib.cell_of_heap HX6.out 0
                  have y1 := Lib.cell_of_heap HX6.out 1
                  simp only [List.getElem?_toArray, List.getElem?_cons_zero, List.getElem?_cons_succ] at k3 y0 y1
                  obtain ⟨li, hli⟩ : ∃ li, li = f4.met[s.num] := ⟨_, rfl⟩
                  obtain ⟨lm, hlm⟩ : ∃ lm, lm = f4.met.length := ⟨_, rfl⟩
                  rw [← hli] at hca' hlen hneg m2
                  rw [← hlm] at k3
                  have hiI : (s.num : Int) < (lm : Int) := by omega
                  have hi0 : (0 : Int) ≤ (s.num : Int) := by omega
                  have HD1 := Lib.hid d1
                  have HM1 := Lib.hid (And.intro m1 (And.intro m3 hAi))
                  have HLI := Lib.hid hli
                  have HLM := Lib.hid hlm
                  have HMT := Lib.hid hmt4
                  have HML4 := Lib.hid hml4
                  have HD4 := Lib.hid d4
                  have HRV := HRV
                  clear hca hli hlm m1 m3 hAi d1 d4 d5 d6 hmt4 hml4
                  have z0 := (World.cell?_of_block (a := ⟨W2.heap.size, 0, none⟩) (Below.heap_alloc W6 (.cells #[.int .i64 (s.st : Int)] 3) W2.heap.size (Array.getElem?_eq_some_iff.1 HX6.out).1)).trans y0
                  have z1 := (World.cell?_of_block (a := ⟨W2.heap.size, 1, none⟩) (Below.heap_alloc W6 (.cells #[.int .i64 (s.st : Int)] 3) W2.heap.size (Array.getElem?_eq_some_iff.1 HX6.out).1)).trans y1
                  have z3 := (World.cell?_of_block (a := ⟨fb, 3, none⟩) (Below.heap_alloc W6 (.cells #[.int .i64 (s.st : Int)] 3) fb hfb6)).trans k3
                  have zc := (World.cell?_of_block (a := ⟨g, s.num, none⟩) (Below.heap_alloc W6 (.cells #[.int .i64 (s.st : Int)] 3) g hgl)).trans hca'
                  have hno3 : own2 W2.heap.size = none := by
                    cases ho : own2 W2.heap.size with
                    | none => rfl
                    | some r => have := (HF2.out.lt _ r ho).2; omega
                  have hnfb : some fb ≠ (Value.slice Ai li.length ci).ownBlock := fun e => by
                    have h8 := HM1.out.2.1 fb (by rw [← HLI.out]; exact e.symm)
                    rw [HF6.out.fin] at h8
                    cases h8
                  have hnst : some W2.heap.size ≠ (Value.slice Ai li.length ci).ownBlock := fun e => by
                    have h8 := HM1.out.2.1 W2.heap.size (by rw [← HLI.out]; exact e.symm)
                    rw [hno3] at h8
                    cases h8
                  have hWB := Lib.hid (show Below W6.heap.size W6 (W6.alloc (.cells #[.int .i64 (s.st : Int)] 3)).drew from Below.drew ((Below.refl _ W6).alloc (Nat.le_refl _) _))
                  go_upto_region 9 with fail
                  go_cut [] (fun wx => ∃ own3, FIs wx own3 base fb mm mf mv { f4 with met := metAdd f4.met s.num s.st } ∧ FStep W6 wx own2 own3)
                  case first =>
                    have hgr : own2 g = some .metr := HDM.out.2.2.1 g rfl
                    have nf : (⟨g, s.num, none⟩ : Addr) ≠ ⟨fb, 3, none⟩ := fun e => by
                      injection e with e
                      rw [e, HF6.out.fin] at hgr
                      cases hgr
                    have ns : ∀ o, (⟨g, s.num, none⟩ : Addr) ≠ ⟨W2.heap.size, o, none⟩ := fun o e => by
                      injection e with e
                      rw [e, hno3] at hgr
                      cases hgr
                    have NF := Lib.hid (And.intro nf ns)
                    clear nf ns hgr
                    refine wp_region_noPanic ?_
                    refine wp_region_held_drew (S := (fun w' => w'.cell? ⟨fb, 3, none⟩ = some (.slice (some ⟨g, 0, none⟩) lm cM6) ∧ w'.cell? ⟨W2.heap.size, 0, none⟩ = some (.int .i64 (s.num : Int)) ∧ w'.cell? ⟨W2.heap.size, 1, none⟩ = some (.int .i64 (s.st : Int)))) (by kernel_rfl) ?_ (fun hHeld => ?_)
                    · (try dsimp only)
                      (first | exact ⟨gk7, gy7, gz7⟩ | exact ⟨(World.cell?_setCell_other _ _ _ _ NF.out.1).trans gk7, (World.cell?_setCell_other _ _ _ _ (NF.out.2 0)).trans gy7, (World.cell?_setCell_other _ _ _ _ (NF.out.2 1)).trans gz7⟩ | exact ⟨z3, z0, z1⟩ | exact ⟨k3, y0, y1⟩ | go_keep)
                    refine wpAnyH_take (i := 0) (v := ?_) rfl (by kernel_rfl) (by kernel_rfl) (by kernel_rfl) (fun _ _ _ h => h) (Or.inl ⟨by rfl, ?_⟩) (by assumption) ?_
                    rotate_left
                    · (intro w hSw; (try dsimp only at hSw); go_simp; try with_reducible rfl)
                    try simp only [Act.put, List.setIfInBounds_toArray]
                    refine wpAnyH_take (i := 1) (v := ?_) rfl (by kernel_rfl) (by kernel_rfl) (by kernel_rfl) (fun _ _ _ h => h) (Or.inl ⟨by rfl, ?_⟩) (by assumption) ?_
                    rotate_left
                    · (intro w hSw; (try dsimp only at hSw); go_simp; try with_reducible rfl)
                    try simp only [Act.put]
                    refine wpAnyH_take (i := 2) (v := ?_) rfl (by kernel_rfl) (by kernel_rfl) (by kernel_rfl) (fun _ _ _ h => h) (Or.inl ⟨by rfl, ?_⟩) (by assumption) ?_
                    rotate_left
                    · (intro w hSw; (try dsimp only at hSw); go_simp; try with_reducible rfl)
                    try simp only [Act.put]
                    refine wpAnyH_take (i := 3) (v := ?_) rfl (by kernel_rfl) (by kernel_rfl) (by kernel_rfl) (fun _ _ _ h => h) (Or.inl ⟨by rfl, ?_⟩) (by assumption) ?_
                    rotate_left
                    · (intro w hSw; (try dsimp only at hSw); go_simp; try with_reducible rfl)
                    try simp only [Act.put]
                    refine wpAnyH_take (i := 4) (v := ?_) rfl (by kernel_rfl) (by kernel_rfl) (by kernel_rfl) (fun _ _ _ h => h) (Or.inl ⟨by rfl, ?_⟩) (by assumption) ?_
                    rotate_left
                    · (intro w hSw; (try dsimp only at hSw); go_simp; try with_reducible rfl)
                    try simp only [Act.put]
                    refine wpAnyH_take (i := 5) (v := ?_) rfl (by kernel_rfl) (by kernel_rfl) (by kernel_rfl) (fun _ _ _ h => h) (Or.inl ⟨by rfl, ?_⟩) (by assumption) ?_
                    rotate_left
                    · (intro w hSw; (try dsimp only at hSw); go_simp; try with_reducible rfl)
                    try simp only [Act.put]
                    refine wpAnyH_take (i := 6) (v := ?_) rfl (by kernel_rfl) (by kernel_rfl) (by kernel_rfl) (fun _ _ _ h => h) (Or.inl ⟨by rfl, ?_⟩) (by assumption) ?_
                    rotate_left
                    · (intro w hSw; (try dsimp only at hSw); go_simp; try with_reducible rfl)
                    try simp only [Act.put]
                    refine wpAnyH_take (i := 7) (v := ?_) rfl (by kernel_rfl) (by kernel_rfl) (by kernel_rfl) (fun _ _ _ h => h) (Or.inl ⟨by rfl, ?_⟩) (by assumption) ?_
                    rotate_left
                    · (intro w hSw; (try dsimp only at hSw); go_simp; try with_reducible rfl)
                    try simp only [Act.put]
                    refine wpAnyH_take (i := 8) (v := ?_) rfl (by kernel_rfl) (by kernel_rfl) (by kernel_rfl) (fun _ _ _ h => h) (Or.inl ⟨by rfl, ?_⟩) (by assumption) ?_
                    rotate_left
                    · (intro w hSw; (try dsimp only at hSw); go_simp; try with_reducible rfl)
                    try simp only [Act.put]
                    refine wpAnyH_take (i := 9) (v := ?_) rfl (by kernel_rfl) (by kernel_rfl) (by kernel_rfl) (fun _ _ _ h => h) (Or.inl ⟨by rfl, ?_⟩) (by assumption) ?_
                    rotate_left
                    · (intro w hSw; (try dsimp only at hSw); go_simp; try with_reducible rfl)
                    try simp only [Act.put]
                    refine wpAnyH_take (i := 10) (v := ?_) rfl (by kernel_rfl) (by kernel_rfl) (by kernel_rfl) (fun _ _ _ h => h) (Or.inl ⟨by rfl, ?_⟩) (by assumption) ?_
                    rotate_left
                    · (intro w hSw; (try dsimp only at hSw); go_simp; try with_reducible rfl)
                    try simp only [Act.put]
                    refine wpAnyH_take (i := 11) (v := ?_) rfl (by kernel_rfl) (by kernel_rfl) (by kernel_rfl) (fun _ _ _ h => h) (Or.inl ⟨by rfl, ?_⟩) (by assumption) ?_
                    rotate_left
                    · (intro w hSw; (try dsimp only at hSw); go_simp; try with_reducible rfl)
                    try simp only [Act.put]
                    refine wpAnyH_take (i := 12) (v := ?_) rfl (by kernel_rfl) (by kernel_rfl) (by kernel_rfl) (fun _ _ _ h => h) (Or.inl ⟨by rfl, ?_⟩) (by assumption) ?_
                    rotate_left
                    · (intro w hSw; (try dsimp only at hSw); go_simp; try with_reducible rfl)
                    try simp only [Act.put]
                    refine wpAnyH_take (i := 13) (v := ?_) rfl (by kernel_rfl) (by kernel_rfl) (by kernel_rfl) (fun _ _ _ h => h) (Or.inl ⟨by rfl, ?_⟩) (by assumption) ?_
                    rotate_left
                    · (intro w hSw; (try dsimp only at hSw); go_simp; try with_reducible rfl)
                    try simp only [Act.put]
                    refine wpAnyH_take (i := 14) (v := ?_) rfl (by kernel_rfl) (by kernel_rfl) (by kernel_rfl) (fun _ _ _ h => h) (Or.inl ⟨by rfl, ?_⟩) (by assumption) ?_
                    rotate_left
                    · (intro w hSw; (try dsimp only at hSw); go_simp; try with_reducible rfl)
                    try simp only [Act.put]
                    refine wpAnyH_take (i := 16) (v := ?_) rfl (by kernel_rfl) (by kernel_rfl) (by kernel_rfl) (fun _ _ _ h => h) (Or.inl ⟨by rfl, ?_⟩) (by assumption) ?_
                    rotate_left
                    · (intro w hSw; (try dsimp only at hSw); go_simp; try with_reducible rfl)
                    try simp only [Act.put]
                    refine wpAnyH_take (i := 17) (v := ?_) rfl (by kernel_rfl) (by kernel_rfl) (by kernel_rfl) (fun _ _ _ h => h) (Or.inl ⟨by rfl, ?_⟩) (by assumption) ?_
                    rotate_left
                    · (intro w hSw; (try dsimp only at hSw); go_simp; try with_reducible rfl)
                    try simp only [Act.put]
                    refine wpAnyH_take (i := 18) (v := ?_) rfl (by kernel_rfl) (by kernel_rfl) (by kernel_rfl) (fun _ _ _ h => h) (Or.inl ⟨by rfl, ?_⟩) (by assumption) ?_
                    rotate_left
                    · (intro w hSw; (try dsimp only at hSw); go_simp; try with_reducible rfl)
                    try simp only [Act.put]
                    refine wpAnyH_ready (rs := [15, 19]) (by kernel_rfl) (by simp) ?_
                    refine AllReadyH.cons rfl (fun K hK => ?_) ?_
                    · go_simp
                      refine hK.out _ _ ?_ (fun hNew => ?_)
                      · (try dsimp only)
                        (first | exact ⟨gk7, gy7, gz7⟩ | exact ⟨(World.cell?_setCell_other _ _ _ _ NF.out.1).trans gk7, (World.cell?_setCell_other _ _ _ _ (NF.out.2 0)).trans gy7, (World.cell?_setCell_other _ _ _ _ (NF.out.2 1)).trans gz7⟩ | exact ⟨z3, z0, z1⟩ | exact ⟨k3, y0, y1⟩ | go_keep)
                      clear hK K
                      try simp only [Act.put, List.setIfInBounds_toArray, List.set_cons_zero, List.set_cons_succ]
                      clear hHeld
                      have hHeld := hNew
                      clear hNew
                      refine wpAnyH_ready (rs := [19]) (by kernel_rfl) (by simp) ?_
                      refine AllReadyH.cons rfl (fun K hK => ?_) ?_
                      · go_simp
                        refine hK.out _ _ ?_ (fun hNew => ?_)
                        · (try dsimp only)
                          (first | exact ⟨gk7, gy7, gz7⟩ | exact ⟨(World.cell?_setCell_other _ _ _ _ NF.out.1).trans gk7, (World.cell?_setCell_other _ _ _ _ (NF.out.2 0)).trans gy7, (World.cell?_setCell_other _ _ _ _ (NF.out.2 1)).trans gz7⟩ | exact ⟨z3, z0, z1⟩ | exact ⟨k3, y0, y1⟩ | go_keep)
                        clear hK K
                        try simp only [Act.put, List.setIfInBounds_toArray, List.set_cons_zero, List.set_cons_succ]
                        clear hHeld
                        have hHeld := hNew
                        clear hNew
                        refine wpAnyH_ready (rs := [20]) (by kernel_rfl) (by simp) ?_
                        refine AllReadyH.cons rfl (fun K hK => ?_) ?_
                        · (refine step_push (by rfl) _ _ _ (by rfl) base rowIn Ai li.length ci _ (by rfl) ((m2.alloc _).drew) W6.heap.size 1 _ (by rfl) (heap_alloc_new W6 _) (by rfl) (by simp [Value.oneCell']) (by unfold maxLen; omega) (by omega) (by simp; omega) ?_; intro A7 c7 W7 hc7 ho7 hg7 hat7; have gc7 := (grown_cell hg7 (a := ⟨g, s.num, none⟩) (by simp; omega) hneg).1.trans zc; have gf7 := (grown_cell hg7 (a := ⟨g, s.num, none⟩) (by simp; omega) hneg).2.trans ((World.frozen?_of_block (a := ⟨g, s.num, none⟩) (Below.heap_alloc W6 _ g hgl)).trans hcf); have gk7 := (grown_cell hg7 (a := ⟨fb, 3, none⟩) (by simp; omega) hnfb).1.trans z3; have gy7 := (grown_cell hg7 (a := ⟨W2.heap.size, 0, none⟩) (by simp; omega) hnst).1.trans z0; have gz7 := (grown_cell hg7 (a := ⟨W2.heap.size, 1, none⟩) (by simp; omega) hnst).1.trans z1)
                          refine hK.out _ _ ?_ (fun hNew => ?_)
                          · (try dsimp only)
                            (first | exact ⟨gk7, gy7, gz7⟩ | exact ⟨(World.cell?_setCell_other _ _ _ _ NF.out.1).trans gk7, (World.cell?_setCell_other _ _ _ _ (NF.out.2 0)).trans gy7, (World.cell?_setCell_other _ _ _ _ (NF.out.2 1)).trans gz7⟩ | exact ⟨z3, z0, z1⟩ | exact ⟨k3, y0, y1⟩ | go_keep)
                          clear hK K
                          try simp only [Act.put, List.setIfInBounds_toArray]
                          clear hHeld
                          have hHeld := hNew
                          clear hNew
                          refine wpAnyH_take (i := 21) (v := ?_) rfl (by kernel_rfl) (by kernel_rfl) (by kernel_rfl) (fun _ _ _ h => h) (Or.inl ⟨by rfl, ?_⟩) (by assumption) ?_
                          rotate_left
                          · (intro w hSw; (try dsimp only at hSw); go_simp; try with_reducible rfl)
                          try simp only [Act.put]
                          refine wpAnyH_ready (rs := [22]) (by kernel_rfl) (by simp) ?_
                          refine AllReadyH.cons rfl (fun K hK => ?_) ?_
                          · go_simp
                            refine hK.out _ _ ?_ (fun hNew => ?_)
                            · (try dsimp only)
                              (first | exact ⟨gk7, gy7, gz7⟩ | exact ⟨(World.cell?_setCell_other _ _ _ _ NF.out.1).trans gk7, (World.cell?_setCell_other _ _ _ _ (NF.out.2 0)).trans gy7, (World.cell?_setCell_other _ _ _ _ (NF.out.2 1)).trans gz7⟩ | exact ⟨z3, z0, z1⟩ | exact ⟨k3, y0, y1⟩ | go_keep)
                            clear hK K
                            try simp only [Act.put, List.setIfInBounds_toArray, List.set_cons_zero, List.set_cons_succ]
                            clear hHeld
                            have hHeld := hNew
                            clear hNew
                            refine wpAnyH_done (by kernel_rfl) ?_ _
                            refine NoPanic.normal ?_
                            have hr7 : W7.ownsRow base 3 1 (.slice A7 (f4.met[s.num].length + 1) c7) (f4.met[s.num].length + 1) (nats f4.met[s.num] ++ [.int .i64 (s.st : Int)]) := by rw [← HLI.out]; exact ho7
                            obtain ⟨own3, hF9, hS9⟩ := FIs.metted (HF6.out.below hWB.out (Nat.le_refl _)) him ((hWB.out.block fb hfb6).trans HD1.out) ((HD4.out.alloc _).drew) HM1.out.1 hr7 (by rw [← HLI.out]; exact hg7) (by rw [← HLI.out]; exact hat7)
                            rw [← HLI.out] at hF9 hS9
                            have HF9 := Lib.hid hF9
                            have HS9 := Lib.hid ((FStep.of_below (own := own2) hWB.out).trans hS9)
                            clear hr7 hF9 hS9 ho7 hg7 hat7 hHeld
                            go_wp2
                            go_meet
                            exact ⟨own3, HF9.out, HS9.out⟩
                          exact AllReadyH.nil
                        exact AllReadyH.nil
                      exact AllReadyH.nil
                    refine AllReadyH.cons rfl (fun K hK => ?_) ?_
                    · go_simp
                      refine hK.out _ _ ?_ (fun hNew => ?_)
                      · (try dsimp only)
                        (first | exact ⟨gk7, gy7, gz7⟩ | exact ⟨(World.cell?_setCell_other _ _ _ _ NF.out.1).trans gk7, (World.cell?_setCell_other _ _ _ _ (NF.out.2 0)).trans gy7, (World.cell?_setCell_other _ _ _ _ (NF.out.2 1)).trans gz7⟩ | exact ⟨z3, z0, z1⟩ | exact ⟨k3, y0, y1⟩ | go_keep)
                      clear hK K
                      try simp only [Act.put, List.setIfInBounds_toArray, List.set_cons_zero, List.set_cons_succ]
                      clear hHeld
                      have hHeld := hNew
                      clear hNew
                      refine wpAnyH_ready (rs := [15]) (by kernel_rfl) (by simp) ?_
                      refine AllReadyH.cons rfl (fun K hK => ?_) ?_
                      · go_simp
                        refine hK.out _ _ ?_ (fun hNew => ?_)
                        · (try dsimp only)
                          (first | exact ⟨gk7, gy7, gz7⟩ | exact ⟨(World.cell?_setCell_other _ _ _ _ NF.out.1).trans gk7, (World.cell?_setCell_other _ _ _ _ (NF.out.2 0)).trans gy7, (World.cell?_setCell_other _ _ _ _ (NF.out.2 1)).trans gz7⟩ | exact ⟨z3, z0, z1⟩ | exact ⟨k3, y0, y1⟩ | go_keep)
                        clear hK K
                        try simp only [Act.put, List.setIfInBounds_toArray, List.set_cons_zero, List.set_cons_succ]
                        clear hHeld
                        have hHeld := hNew
                        clear hNew
                        refine wpAnyH_ready (rs := [20]) (by kernel_rfl) (by simp) ?_
                        refine AllReadyH.cons rfl (fun K hK => ?_) ?_
                        · (refine step_push (by rfl) _ _ _ (by rfl) base rowIn Ai li.length ci _ (by rfl) ((m2.alloc _).drew) W6.heap.size 1 _ (by rfl) (heap_alloc_new W6 _) (by rfl) (by simp [Value.oneCell']) (by unfold maxLen; omega) (by omega) (by simp; omega) ?_; intro A7 c7 W7 hc7 ho7 hg7 hat7; have gc7 := (grown_cell hg7 (a := ⟨g, s.num, none⟩) (by simp; omega) hneg).1.trans zc; have gf7 := (grown_cell hg7 (a := ⟨g, s.num, none⟩) (by simp; omega) hneg).2.trans ((World.frozen?_of_block (a := ⟨g, s.num, none⟩) (Below.heap_alloc W6 _ g hgl)).trans hcf); have gk7 := (grown_cell hg7 (a := ⟨fb, 3, none⟩) (by simp; omega) hnfb).1.trans z3; have gy7 := (grown_cell hg7 (a := ⟨W2.heap.size, 0, none⟩) (by simp; omega) hnst).1.trans z0; have gz7 := (grown_cell hg7 (a := ⟨W2.heap.size, 1, none⟩) (by simp; omega) hnst).1.trans z1)
                          refine hK.out _ _ ?_ (fun hNew => ?_)
                          · (try dsimp only)
                            (first | exact ⟨gk7, gy7, gz7⟩ | exact ⟨(World.cell?_setCell_other _ _ _ _ NF.out.1).trans gk7, (World.cell?_setCell_other _ _ _ _ (NF.out.2 0)).trans gy7, (World.cell?_setCell_other _ _ _ _ (NF.out.2 1)).trans gz7⟩ | exact ⟨z3, z0, z1⟩ | exact ⟨k3, y0, y1⟩ | go_keep)
                          clear hK K
                          try simp only [Act.put, List.setIfInBounds_toArray]
                          clear hHeld
                          have hHeld := hNew
                          clear hNew
                          refine wpAnyH_take (i := 21) (v := ?_) rfl (by kernel_rfl) (by kernel_rfl) (by kernel_rfl) (fun _ _ _ h => h) (Or.inl ⟨by rfl, ?_⟩) (by assumption) ?_
                          rotate_left
                          · (intro w hSw; (try dsimp only at hSw); go_simp; try with_reducible rfl)
                          try simp only [Act.put]
                          refine wpAnyH_ready (rs := [22]) (by kernel_rfl) (by simp) ?_
                          refine AllReadyH.cons rfl (fun K hK => ?_) ?_
                          · go_simp
                            refine hK.out _ _ ?_ (fun hNew => ?_)
                            · (try dsimp only)
                              (first | exact ⟨gk7, gy7, gz7⟩ | exact ⟨(World.cell?_setCell_other _ _ _ _ NF.out.1).trans gk7, (World.cell?_setCell_other _ _ _ _ (NF.out.2 0)).trans gy7, (World.cell?_setCell_other _ _ _ _ (NF.out.2 1)).trans gz7⟩ | exact ⟨z3, z0, z1⟩ | exact ⟨k3, y0, y1⟩ | go_keep)
                            clear hK K
                            try simp only [Act.put, List.setIfInBounds_toArray, List.set_cons_zero, List.set_cons_succ]
                            clear hHeld
                            have hHeld := hNew
                            clear hNew
                            refine wpAnyH_done (by kernel_rfl) ?_ _
                            refine NoPanic.normal ?_
                            have hr7 : W7.ownsRow base 3 1 (.slice A7 (f4.met[s.num].length + 1) c7) (f4.met[s.num].length + 1) (nats f4.met[s.num] ++ [.int .i64 (s.st : Int)]) := by rw [← HLI.out]; exact ho7
                            obtain ⟨own3, hF9, hS9⟩ := FIs.metted (HF6.out.below hWB.out (Nat.le_refl _)) him ((hWB.out.block fb hfb6).trans HD1.out) ((HD4.out.alloc _).drew) HM1.out.1 hr7 (by rw [← HLI.out]; exact hg7) (by rw [← HLI.out]; exact hat7)
                            rw [← HLI.out] at hF9 hS9
                            have HF9 := Lib.hid hF9
                            have HS9 := Lib.hid ((FStep.of_below (own := own2) hWB.out).trans hS9)
                            clear hr7 hF9 hS9 ho7 hg7 hat7 hHeld
                            go_wp2
                            go_meet
                            exact ⟨own3, HF9.out, HS9.out⟩
                          exact AllReadyH.nil
                        exact AllReadyH.nil
                      exact AllReadyH.nil
                    exact AllReadyH.nil
                  case rest =>
                    obtain ⟨own3, hF7, hS7⟩ := hcut
                    rename World => W7
                    have hs7 := hS7.kb.size
                    have hX7 := (hS7.kb.block W2.heap.size (Array.getElem?_eq_some_iff.1 HX6.out).1 (fun h => h hno3)).trans HX6.out
                    have hno4 : own3 W2.heap.size = none := by
                      cases ho : own3 W2.heap.size with
                      | none => rfl
                      | some r =>
                        rcases hS7.inv _ r ho with h9 | h9
                        · rw [hno3] at h9; cases h9
                        · have := (Array.getElem?_eq_some_iff.1 HX6.out).1; omega
                    obtain ⟨f7, hf7⟩ : ∃ f7 : FS, f7 = { f4 with met := metAdd f4.met s.num s.st } := ⟨_, rfl⟩
                    rw [← hf7] at hF7
                    have hI7 : FInv M N N s.cost f7 (fun a b _ => a = s.num ∧ b = s.st) (fun a b => a = s.num ∧ b = s.st) := by rw [hf7, HF4E.out, HFE.out]; exact HD.out
                    have hk7 : f7.mar s.num s.st = some (s, true) := by rw [hf7, HF4E.out]; show upM _ _ _ _ _ _ = _; unfold upM; rw [if_pos ⟨rfl, rfl⟩]
                    have hq7 : f7.q = q' := by rw [hf7, HF4E.out, HFE.out]
                    have hm7 : f7.met = metAdd f1.met s.num s.st := by rw [hf7, HF4E.out, HFE.out]
                    have hr7 : f7.mar = upM f1.mar s.num s.st (s, true) := by rw [hf7, HF4E.out, HFE.out]
                    obtain ⟨A7, c7, AM7, cM7, AT7, cT7, MV7, d1, _, _, _, ⟨d7, d8⟩⟩ := hF7.blk
                    have hfew7 := hI7.few hO hN
                    have k4 := Lib.cell_of_heap d1 4
                    have x0 := Lib.cell_of_heap hX7 0
                    have x1 := Lib.cell_of_heap hX7 1
                    simp only [List.getElem?_toArray, List.getElem?_cons_zero, List.getElem?_cons_succ] at k4 x0 x1
                    have HF7 := Lib.hid hF7
                    have HS7 := Lib.hid (HS6.out.trans hS7)
                    have HX7 := Lib.hid hX7
                    have HI7 := Lib.hid hI7
                    have HE7 := Lib.hid (And.intro hk7 (And.intro hq7 (And.intro hm7 hr7)))
                    have HD7 := Lib.hid (And.intro d7 d8)
                    have hW7 : Below w0.heap.size w0 W7 := ((FStep.of_below HB1.out).trans HS7.out).below hb hw0 fun q r hq => Nat.le_trans hB (H0.out.lt q r hq).1
                    have HW7 := Lib.hid hW7
                    have hwl7 := (Array.getElem?_eq_some_iff.1 hX7).1
                    have htl : f7.trees.length ≤ 1000000 := by omega
                    clear hF7 hS7 hX7 hf7 hI7 hk7 hq7 hm7 hr7 d1 d7 d8 hW7 z0 z1 z3 zc k3 y0 y1 hca' hcf
                    go_wp2
                    go_loopw [92] (fun jv wr => ∃ (j : Nat) (own1 : FOwn) (f8 : FS), jv = .int .i64 j ∧ j ≤ f7.trees.length ∧ FIs wr own1 base fb mm mf mv f8 ∧ FInv M N N s.cost f8 (fun a b c => a = s.num ∧ b = s.st ∧ c ∈ f7.trees.drop j) (fun a b => a = s.num ∧ b = s.st) ∧ Hid (Heap f8.q ∧ f8.q.length ≤ q'.length + j) ∧ Alike f7 f8 ∧ FStep W7 wr own3 own1 ∧ FQu W7 wr own3) (fun jv _ => f7.trees.length - (intOf jv).toNat)
                    case atStart =>
                      refine ⟨0, own3, f7, rfl, Nat.zero_le _, HF7.out, HI7.out.weak (fun a b c kk src h1 h2 h3 => ⟨h3.1, h3.2, ?_⟩) (fun _ _ _ _ h => h), ⟨?_, ?_⟩, Alike.refl _, FStep.refl _ _, FQu.refl _ _⟩
                      · exact (HI7.out.tr c).2 ⟨src, h2⟩
                      · rw [HE7.out.2.1]; exact HP2.out.2.2
                      · rw [HE7.out.2.1]; exact Nat.le_add_right _ _
                    case round =>
                      obtain ⟨j, own1a, f8, rfl, hj, hF8, hI8, hq8, hA8, hS8, hU8⟩ := hrel
                      by_cases hjl : j < f7.trees.length
                      · have hrow := fown_block HD7.out.1 (w' := wr) fun q hq => hU8 q _ (HD7.out.2 q hq) rfl
                        obtain ⟨a2, u2, rfl, hab2, hu2, hca2⟩ := (Rd.of_own hrow).at_ hjl
                        rw [nats_at hjl] at hu2
                        injection hu2 with hu2
                        subst hu2
                        have htm : f7.trees[j] ∈ f8.trees := by rw [hA8.trees]; exact List.getElem_mem _
                        obtain ⟨src, hsrc⟩ := (hI8.tr _).1 htm
                        have hk8 : f8.mar s.num s.st = some (s, true) := (hA8.mar _ _ _).2 HE7.out.1
                        obtain ⟨hsl, hso, k9, hk9, hsc⟩ := hI8.fn _ _ hsrc
                        have hvK : f7.trees[j] < M.K := by rw [← hso]; exact hO.out _ _ hsl (hI8.lt hO hN hk9).2.1
                        have hsct : src.cost ≤ topC := by rw [hsc]; exact addC_le _ _
                        have hbw : Below w0.heap.size w0 wr := (((FStep.of_below HB1.out).trans HS7.out).trans hS8).below hb hw0 fun q r hq => Nat.le_trans hB (H0.out.lt q r hq).1
                        have HCUR := Lib.hid (show s.cost ≤ addC s.cost src.cost from addC_ge hfin.2.2)
                        have HDR := Lib.hid (show f7.trees.drop j = f7.trees[j] :: f7.trees.drop (j + 1) from List.drop_eq_getElem_cons hjl)
                        have hql8 : f8.q.length < 1000000000000 := by
                          have e1 := hq8.out.2
                          have e2 := HP2.out.1.length_eq
                          have e3 := hq1.out.2.1
                          simp only [List.length_cons] at e2
                          have e4 := hfew.1
                          omega
                        have HCALL := Lib.hid (goOn_any hF8 HMA.out hO hbw hB hq8.out.1 hql8 (by omega : s.num ≤ M.L) hfin.2.1 hvK hk8 hsrc hfin.2.2 hsct)
                        have HI8 := Lib.hid hI8
                        have HKV := Lib.hid (And.intro hk8 hsrc)
                        have hx8 := (hS8.kb.block W2.heap.size hwl7 (fun h => h hno4)).trans HX7.out
                        have x0 := Lib.cell_of_heap hx8 0
                        have x1 := Lib.cell_of_heap hx8 1
                        simp only [List.getElem?_toArray, List.getElem?_cons_zero, List.getElem?_cons_succ] at x0 x1
                        generalize f7.trees[j] = b0 at *
                        clear hF8 hI8 hrow htm hsrc hk8 hsl hso hk9 hsc hx8
                        go_wp2_with fail
                        refine HCALL.out.mono ?_
                        rintro e W8 ⟨rfl, own4, f9, hP9, hF9, hS9, hU9⟩
                        have hI9 := (FInv.goOn hO hN HI8.out HKV.out.1 HKV.out.2 HCUR.out hP9).weak (P' := fun a b c => a = s.num ∧ b = s.st ∧ c ∈ f7.trees.drop (j + 1)) (X' := fun a b => a = s.num ∧ b = s.st) (fun x y z kk _ _ _ h9 => by
                          obtain ⟨⟨h8, h7, h6⟩, h5⟩ := h9
                          refine ⟨h8, h7, ?_⟩
                          rw [HDR.out] at h6
                          rcases List.mem_cons.1 h6 with h4 | h4
                          · exact absurd ⟨h8, h7, h4⟩ h5
                          · exact h4) (fun _ _ _ _ h => h)
                        have hq9 := put_grows hP9
                        have HI9 := Lib.hid hI9
                        have HF9 := Lib.hid hF9
                        have HQ9 := Lib.hid (show Heap f9.q ∧ f9.q.length ≤ q'.length + (j + 1) from ⟨hq9.2.2.2.2.2.1 hq8.out.1, by have := hq9.2.2.2.2.1; have := hq8.out.2; omega⟩)
                        have hA9 := hA8.trans (put_alike hP9)
                        have HS9 := Lib.hid (hS8.trans hS9)
                        have HU9 := Lib.hid (hU8.trans hS8 hU9)
                        clear hP9 hF9 hS9 hU9 hI9 hq9 x0 x1
                        go_wp2
                        go_roundw
                        case rel => exact ⟨j + 1, own4, f9, by go_num, by omega, HF9.out, HI9.out, HQ9.out, hA9, HS9.out, HU9.out⟩
                        case measure => simp [intOf]; omega
                      · obtain rfl : j = f7.trees.length := by omega
                        have hI10 := hI8.weak (P' := fun _ _ _ => False) (X' := fun a b => a = s.num ∧ b = s.st) (fun x y z kk src _ _ h9 => by have := h9.2.2; simp at this) (fun _ _ _ _ h => h)
                        have hk8 : f8.mar s.num s.st = some (s, true) := (hA8.mar _ _ _).2 HE7.out.1
                        have hfew8 := hI8.few hO hN
                        have hnr : NoRoot M f8 := fun s' k' h9 h8 => by
                          have h7 := (hA8.mar _ _ _).1 h9
                          rw [HE7.out.2.2.2] at h7
                          unfold upM at h7
                          split at h7
                          · rename_i h6
                            exact HROOT.out ⟨h6.1.symm, by rw [HOV.out, ← h6.1, ← h6.2]; exact h8⟩
                          · exact hq1.out.2.2 _ _ h7 h8
                        have hmt8 : sumL f8.met = sumL f1.met + 1 := by
                          rw [hA8.met, HE7.out.2.2.1]
                          exact sumL_add (by have := HI1.out.ml; omega)
                        have hql8 : f8.q.length + 1 ≤ f1.q.length + 400 := by
                          have e1 := hq8.out.2
                          have e2 := HP2.out.1.length_eq
                          simp only [List.length_cons] at e2
                          have e4 := hfew7.2
                          omega
                        have hvb : ov ≤ 1000000000000 := by
                          rw [HOV.out]
                          rcases Nat.lt_or_ge s.num M.L with h9 | h9
                          · have := hO.out _ _ h9 hfin.2.1
                            have := hO.fewK
                            omega
                          · have e9 : s.num = M.L := by omega
                            have := hOL s.st (by rw [← e9]; exact hfin.2.1)
                            rw [e9]
                            omega
                        obtain ⟨A8, c8, AM8, cM8, AT8, cT8, MV8, d1, _⟩ := hF8.blk
                        obtain ⟨n8, hm8⟩ := hF8.fns
                        have hlk := hm8.look intK Tryz.underlying240 (zSr wr) (keyIn hvb) true
                        rw [fnF_at] at hlk
                        obtain ⟨z0, z1, z2, ok, hlk', hok⟩ : ∃ (z0 z1 z2 : Int) (ok : Bool), (Instr.lookup 240 (.map (some mf)) (.int .i64 (ov : Int)) true).run Tryz.prog wr = .ok (.tuple #[.agg #[.int .i64 z0, .int .i64 z1, .int .i64 z2], .bool ok]) wr ∧
                            ((ok = true ∧ ∃ src, f8.fnd ov = some src) ∨ (ok = false ∧ f8.fnd ov = none)) := by
                          cases hc : f8.fnd ov with
                          | none =>
                            rw [hc] at hlk
                            exact ⟨0, 0, 0, false, hlk, .inr ⟨rfl, rfl⟩⟩
                          | some src =>
                            rw [hc] at hlk
                            exact ⟨_, _, _, true, hlk, .inl ⟨rfl, src, rfl⟩⟩
                        have c5 := Lib.cell_of_heap d1 5
                        simp only [List.getElem?_toArray, List.getElem?_cons_zero, List.getElem?_cons_succ] at c5
                        have hB9 := (Below.refl _ wr).alloc (Nat.le_refl _) (.cells #[.int .i64 z0, .int .i64 z1, .int .i64 z2] 252)
                        have hS10 := (HS7.out.trans hS8).trans (FStep.of_below (own := own1a) hB9)
                        have hF9 := hF8.below hB9 (Nat.le_refl _)
                        have hx8 := (hB9.block W2.heap.size (by have := hS8.kb.size; omega)).trans ((hS8.kb.block W2.heap.size hwl7 (fun h => h hno4)).trans HX7.out)
                        have HI10 := Lib.hid hI10
                        have HS10 := Lib.hid hS10
                        have HF9 := Lib.hid hF9
                        have HK8 := Lib.hid (And.intro hk8 (And.intro hnr (And.intro hmt8 hok)))
                        have HX8 := Lib.hid hx8
                        have hno5 : own1a W2.heap.size = none := by
                          cases ho : own1a W2.heap.size with
                          | none => rfl
                          | some r =>
                            rcases hS8.inv _ r ho with h9 | h9
                            · rw [hno4] at h9; cases h9
                            · omega
                        clear hI8 hI10 hF8 hF9 hS8 hS10 hU8 hA8 hk8 hnr hmt8 d1 hm8 hlk hok hB9 hx8 x0 x1 k4
                        go_upto_region 16 with fail
                        generalize wr.alloc (.cells #[.int .i64 z0, .int .i64 z1, .int .i64 z2] 252) = W9 at *
                        clear hlk' c5
                        by_cases htell : rv = false ∧ ok = false
                        · obtain ⟨rfl, rfl⟩ := htell
                          have hfn : f8.fnd ov = none := by
                            rcases HK8.out.2.2.2 with h9 | h9
                            · exact absurd h9.1 (by simp)
                            · exact h9.2
                          have hltL : s.num < M.L := by
                            have h9 : ¬ (s.num : Int) = (M.L : Int) := by
                              have h9 := HRV.out
                              intro e
                              rw [e] at h9
                              simp at h9
                            omega
                          have hWd : Below w0.heap.size w0 W9.drew := Below.drew (((FStep.of_below HB1.out).trans HS10.out).below hb hw0 fun q r hq => Nat.le_trans hB (H0.out.lt q r hq).1)
                          have hsm : f8.q.length + sumL f8.met < 1000000000000 := by
                            have e1 := hq1.out.2.1
                            have e2 := hfew.1
                            have e3 := hfew8.1
                            omega
                          have hT := tell_any (HF9.out.below (Below.drew (Below.refl _ W9)) (Nat.le_refl _)) HMA.out hO hN hWd hB HI10.out HK8.out.1 rfl hltL (by rw [← HOV.out]; exact hfn) hq8.out.1 hsm (by have := hfew8.2; omega)
                          rw [← HOV.out] at hT
                          have HT := Lib.hid hT
                          have HAD := Lib.hid (show Calls Tryz.prog 155 #[.int .i64 (s.cost : Int), .int .i64 1] W9.drew fun e w' => e = .returned (.int .i64 (addC s.cost 1 : Int)) ∧ W9.drew = w' from add_any (a := s.cost) (b := 1) hfin.2.2 (by unfold topC; omega))
                          have x0 : W9.drew.cell? ⟨W2.heap.size, 0, none⟩ = some (.int .i64 (s.num : Int)) := (Lib.cell_of_heap HX8.out 0).trans rfl
                          have x1 : W9.drew.cell? ⟨W2.heap.size, 1, none⟩ = some (.int .i64 (s.st : Int)) := (Lib.cell_of_heap HX8.out 1).trans rfl
                          have x2 : W9.drew.cell? ⟨W2.heap.size, 2, none⟩ = some (.int .i64 (s.cost : Int)) := (Lib.cell_of_heap HX8.out 2).trans rfl
                          have hwl9 : W2.heap.size < W9.drew.heap.size := (Array.getElem?_eq_some_iff.1 HX8.out).1
                          clear hT hWd
                          obtain ⟨cc, hcc⟩ : ∃ cc, cc = addC s.cost 1 := ⟨_, rfl⟩
                          rw [← hcc] at HT HAD
                          have HCC := Lib.hid hcc
                          clear hcc
                          go_upto_region 17 with fail
                          go_region_held3 (fun w' => w'.cell? ⟨W2.heap.size, 0, none⟩ = some (.int .i64 (s.num : Int)) ∧ w'.cell? ⟨W2.heap.size, 1, none⟩ = some (.int .i64 (s.st : Int)) ∧ w'.cell? ⟨W2.heap.size, 2, none⟩ = some (.int .i64 (s.cost : Int)))
                            (first
                              | exact ⟨t0, t1, t2⟩
                              | exact ⟨x0, x1, x2⟩
                              | go_keep)
                            (first
                              | (go_at_call 155; refine HAD.out.mono ?_; rintro e w' ⟨rfl, rfl⟩)
                              | (go_at_call 154; refine HT.out.mono ?_; rintro e W10 ⟨rfl, own5, f10, hF10, hI10, hH10, hS10, hm10, hd10, hq10⟩; have hb10 := hS10.kb.block W2.heap.size hwl9 (fun h => h hno5); have t0 := (World.cell?_of_block (a := ⟨W2.heap.size, 0, none⟩) hb10).trans x0; have t1 := (World.cell?_of_block (a := ⟨W2.heap.size, 1, none⟩) hb10).trans x1; have t2 := (World.cell?_of_block (a := ⟨W2.heap.size, 2, none⟩) hb10).trans x2))
                          all_goals
                            have HF10 := Lib.hid hF10
                            have HI11 := Lib.hid hI10
                            have HS11 := Lib.hid ((HS10.out.trans (FStep.of_below (own := own1a) (Below.drew (Below.refl _ W9)))).trans hS10)
                            have HQ11 := Lib.hid (show Heap f10.q ∧ f10.q.length ≤ 1000 + 50000 * sumL f10.met ∧ NoRoot M f10 ∧ pot f10 < pot f1 from by
                              have e1 := hq1.out.2.1
                              have e2 := HK8.out.2.2.1
                              have e3 := hfew8.1
                              rw [e2] at e3 hq10
                              refine ⟨hH10, by rw [hm10, e2]; omega, fun s' k' h9 h8 => HK8.out.2.1 s' k' ((hd10 _ _ _).1 h9) h8, ?_⟩
                              unfold pot
                              rw [hm10, e2]
                              omega)
                            clear hF10 hI10 hS10 hH10 hm10 hd10 hq10 hb10
                            go_wp2
                            go_roundg (pot f10)
                            case measure => exact HQ11.out.2.2.2
                            case rel => exact ⟨own5, f10, s.cost, rfl, HF10.out, HI11.out, ⟨HQ11.out.1, HQ11.out.2.1, HQ11.out.2.2.1⟩, HS11.out⟩
                        · have hI11 := HI10.out.noTell HK8.out.1 (Nat.le_refl _) (fun hlt => by
                            rw [← HOV.out]
                            rcases HK8.out.2.2.2 with h9 | h9
                            · exact h9.2
                            · refine absurd ⟨?_, h9.1⟩ htell
                              rw [← HRV.out]
                              simp
                              omega)
                          have HI11 := Lib.hid hI11
                          have HQ11 := Lib.hid (show Heap f8.q ∧ f8.q.length ≤ 1000 + 50000 * sumL f8.met ∧ NoRoot M f8 ∧ pot f8 < pot f1 from by
                            have e1 := hq1.out.2.1
                            have e2 := HK8.out.2.2.1
                            refine ⟨hq8.out.1, by rw [e2]; omega, HK8.out.2.1, ?_⟩
                            unfold pot
                            rw [e2]
                            have e3 := hfew8.1
                            rw [e2] at e3
                            omega)
                          have hrk : (rv = true ∧ ok = true) ∨ (rv = true ∧ ok = false) ∨ (rv = false ∧ ok = true) := by
                            exact bool_three _ _ htell
                          clear hI11
                          rcases hrk with ⟨h8, h9⟩ | ⟨h8, h9⟩ | ⟨h8, h9⟩
                          all_goals
                            subst h8
                            subst h9
                            go_wp2
                            go_roundg (pot f8)
                            case measure => exact HQ11.out.2.2.2
                            case rel => exact ⟨own1a, f8, s.cost, rfl, HF9.out, HI11.out, ⟨HQ11.out.1, HQ11.out.2.1, HQ11.out.2.2.1⟩, HS10.out⟩
    · have hq0 : f1.q.length = 0 := by rw [hnil]; rfl
      rw [hq0] at k1
      have HNIL := Lib.hid hnil
      clear hnil hq0
      have r0 := Lib.cell_of_heap HX1.out 0
      have r1 := Lib.cell_of_heap HX1.out 1
      have r2 := Lib.cell_of_heap HX1.out 2
      have r3 := Lib.cell_of_heap HX1.out 3
      have r4 := Lib.cell_of_heap HX1.out 4
      have s0 := Lib.frozen_of_heap HX1.out 0
      have s1 := Lib.frozen_of_heap HX1.out 1
      have s2 := Lib.frozen_of_heap HX1.out 2
      have s3 := Lib.frozen_of_heap HX1.out 3
      have s4 := Lib.frozen_of_heap HX1.out 4
      simp only [List.getElem?_toArray, List.getElem?_cons_zero, List.getElem?_cons_succ] at r0 r1 r2 r3 r4
      go_wp2
      refine ret_stp rfl rfl rfl rfl (stp_stored HX1.out _ _ _ _ _) ⟨own1, f1, HF1.out.far HNO.out _ _ _ _ _, ((FStep.of_below HB1.out).trans HS1.out).far (Nat.le_refl _) _ _ _ _ _, .inr ⟨cur1, rfl, HI1.out, HNIL.out, hq1.out.2.2⟩⟩
end Go.Proofs.YtnkelhmjkmeilaaGreatDoor.H
end
