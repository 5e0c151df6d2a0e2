/- The walk of the law HedgeDeep. -/
import Derived.Test.YtbipdnnalhdoaaaHB
import Derived.Test.YtbipdnnalhdoaaaHz2
namespace Go.Proofs.Ytbipdnnalhdoaaa
open Go.RowKit Go.Maps Go.WideMaps
attribute [local go_sem ↓] Go.wp_at_zero Go.wp_at_succ

theorem add_zero' (a : Addr) : a.add 0 = a := by unfold Addr.add; rw [if_pos rfl]
theorem getD_at {l : List Int} {v : Nat} (h : v < l.length) : l[v]? = some (l.getD v (-1)) := by simp [List.getD, h]
set_option maxHeartbeats 4000000 in
set_option maxRecDepth 100000 in
theorem HedgeDeep_calls {w : World} {x : Int} {A B : Option Addr} {c c' : Nat} {ls : List (List Int)} {l : List Int} (hx : IntB x) (HL : RowsIn w A ls) (_ : Cap ls.length c) (HR : SlP w (fun b => b < w.heap.size) 1 B l.length (l.map .i)) (hcl : Cap l.length c') (hb : ∀ x ∈ l, IntB x) :
    Calls Try.prog 6 #[.int .i64 x, .slice A ls.length c, .slice B l.length c'] w fun e w' => e = .returned (.bool true) ∧ Below w.heap.size w w' := by
  have HG := Lib.hid (Good_any (c := c) (c' := c') hx HL HR hcl.len hb)
  clear HL HR hb
  go_enter Try.func6, Try.ntmps6
  go_wp2_with fail
  refine HG.out.mono ?_
  rintro e W1 ⟨h, A1, c1, B1, c2, C1, c3, rfl, hO, hL3', hV, b1⟩
  have hL3 : h.labs.length ≤ 3 := by omega
  have hL0 : 0 < h.labs.length := by omega
  clear hL3'
  have hV1 := hV.more (S' := fun b => b < W1.heap.size) fun b hb => hb.2
  have hal := (Below.refl _ W1).alloc (Nat.le_refl _) (.cells #[.int .i64 h.K, .slice A1 h.labs.length c1, .slice B1 h.root.nx.length c2, .slice C1 h.root.out.length c3] 28)
  have hxh := heap_alloc_new W1 (.cells #[.int .i64 h.K, .slice A1 h.labs.length c1, .slice B1 h.root.nx.length c2, .slice C1 h.root.out.length c3] 28)
  have hsz1 : (W1.alloc (.cells #[.int .i64 h.K, .slice A1 h.labs.length c1, .slice B1 h.root.nx.length c2, .slice C1 h.root.out.length c3] 28)).heap.size = W1.heap.size + 1 := World.size_alloc _ _
  go_upto_region 2 with fail
  generalize W1.alloc (.cells #[.int .i64 h.K, .slice A1 h.labs.length c1, .slice B1 h.root.nx.length c2, .slice C1 h.root.out.length c3] 28) = W2 at *
  have HC := Lib.hid (Costs_any (hV1.on hal) hO (by decide) hL0)
  have x0 := Lib.cell_of_heap hxh 0
  have x1 := Lib.cell_of_heap hxh 1
  have x2 := Lib.cell_of_heap hxh 2
  have x3 := Lib.cell_of_heap hxh 3
  simp only [List.getElem?_toArray, List.getElem?_cons_zero, List.getElem?_cons_succ] at x0 x1 x2 x3
  have hwl := (Array.getElem?_eq_some_iff.1 hxh).1
  have HV2 := Lib.hid (hV1.on hal)
  have HX2 := Lib.hid hxh
  have HB2 := Lib.hid (b1.trans (hal.mono b1.size))
  clear hV hV1 hal hxh b1
  go_wp2_with fail
  refine HC.out.mono ?_
  rintro e W3 ⟨A3, c4, cs, rfl, hcp, hlen, hsl, hcs, b3⟩
  obtain ⟨K, hK⟩ : ∃ K : Nat, h.K = (K : Int) := ⟨h.K.toNat, (Int.toNat_of_nonneg (by have := hO.K1; omega)).symm⟩
  have hKt : h.K.toNat = K := by rw [hK]; exact Int.toNat_natCast K
  have hlK : cs.length = K := by rw [hlen, hKt]
  have hK4 : K ≤ 4 := by have := hO.fewK; omega
  have hx3 := (b3.block _ hwl).trans HX2.out
  rw [hK] at hx3
  replace x0 := Lib.cell_of_heap hx3 0
  replace x1 := Lib.cell_of_heap hx3 1
  replace x2 := Lib.cell_of_heap hx3 2
  replace x3 := Lib.cell_of_heap hx3 3
  simp only [List.getElem?_toArray, List.getElem?_cons_zero, List.getElem?_cons_succ] at x0 x1 x2 x3
  have hwl3 := (Array.getElem?_eq_some_iff.1 hx3).1
  have HX3 := Lib.hid hx3
  have HV3 := Lib.hid (HV2.out.on b3)
  have HB3 := Lib.hid (HB2.out.trans (b3.mono HB2.out.size))
  have HS3 := Lib.hid (hsl.more (S' := fun b => b < W3.heap.size) fun b hb => hb.2)
  have HCS := Lib.hid hcs
  have HLK := Lib.hid (And.intro hlK (And.intro hK hKt))
  have hb0 : ((cs.length : Int) == (K : Int)) = true := by simp [hlK]
  have hb1 : ((cs.length : Int) != (K : Int)) = false := by simp [hlK]
  have hclen : cs.length ≤ 4 := by omega
  clear hlen hsl hcs b3 hx3 hcp hlK hKt
  rw [hK]
  clear hK
  go_wp2
  go_loopw [9] (fun iv wr => ∃ i : Nat, iv = .int .i64 i ∧ i ≤ h.labs.length ∧ Below W3.heap.size W3 wr) (fun iv _ => h.labs.length - (intOf iv).toNat)
  case atStart => exact ⟨0, rfl, Nat.zero_le _, Below.refl _ _⟩
  case round =>
    obtain ⟨i, rfl, hi, hbr⟩ := hrel
    obtain ⟨wo, rfl⟩ : ∃ wo : World, wo = wr := ⟨_, rfl⟩
    have hx4 := (hbr.block _ hwl3).trans HX3.out
    have z1 := Lib.cell_of_heap hx4 1
    simp only [List.getElem?_toArray, List.getElem?_cons_zero, List.getElem?_cons_succ] at z1
    have HBR := Lib.hid hbr
    have HX4 := Lib.hid hx4
    have hwl4 := (Array.getElem?_eq_some_iff.1 hx4).1
    clear hbr hx4
    by_cases hlt : i < h.labs.length
    · have HVr := HV3.out.on HBR.out
      obtain ⟨a, B', c1', C', c2', rfl, hab, k0, k1, hsd⟩ := labs_at HVr.labs (Hd.side_lt hlt)
      have hside := (hO.sideOk i).1
      rw [if_pos hlt] at hside
      have hss := (hO.sideOk i).2
      have hbare := HCS.out.bare i hlt
      have hon := fun v (hv : 0 ≤ cs.getD v (-1)) => HCS.out.on i v hlt hv
      have e1 : ∀ s v, h.mc.nx i s v = (h.side i).nxt s v := fun _ _ => rfl
      have e2 : ∀ s, h.mc.out i s = (h.side i).tell s := fun _ => rfl
      simp only [e1, e2] at hbare hon
      have hiI : (i : Int) < (h.labs.length : Int) := by omega
      have hi0 : (0 : Int) ≤ (i : Int) := by omega
      generalize h.side i = sd at *
      have hal := (Below.refl _ wo).alloc (Nat.le_refl _) (.cells #[.slice B' sd.nx.length c1', .slice C' sd.out.length c2'] 26)
      have hxa := heap_alloc_new wo (.cells #[.slice B' sd.nx.length c1', .slice C' sd.out.length c2'] 26)
      have hx4a := (hal.block _ hwl4).trans HX4.out
      have hbw := HBR.out.trans (hal.mono HBR.out.size)
      go_upto_region 9 with fail
      generalize wo.alloc (.cells #[.slice B' sd.nx.length c1', .slice C' sd.out.length c2'] 26) = W5 at *
      have hsd5 := hsd.on hal
      rw [HLK.out.2.2] at hside
      have hpos := hside.pos
      obtain ⟨t1, t2⟩ := hside.tell hpos
      obtain ⟨ao, rfl, hao, q0⟩ := ints_at' hsd5.out t1
      rw [add_zero'] at q0
      have hcl := HLK.out.1
      obtain ⟨ac, rfl, hac, q1⟩ := ints_at' (Sl.on HS3.out hbw) (getD_at (l := cs) (v := sd.tell 0) (by omega))
      rw [hbare] at q1
      have y0 := Lib.cell_of_heap hxa 0
      have y1 := Lib.cell_of_heap hxa 1
      simp only [List.getElem?_toArray, List.getElem?_cons_zero, List.getElem?_cons_succ] at y0 y1
      have hposI : (0 : Int) < (sd.out.length : Int) := by omega
      have htI : ((sd.tell 0 : Nat) : Int) < (cs.length : Int) := by omega
      have ht0 : (0 : Int) ≤ ((sd.tell 0 : Nat) : Int) := by omega
      have HSD5 := Lib.hid hsd5
      have HXA := Lib.hid hxa
      have HX5 := Lib.hid hx4a
      have HBW := Lib.hid hbw
      have HON := Lib.hid hon
      have HSI := Lib.hid hside
      have hwl5 := (Array.getElem?_eq_some_iff.1 hx4a).1
      have hwo5 := (Array.getElem?_eq_some_iff.1 hxa).1
      clear HVr k0 k1 hsd hside hbare hon e1 e2 hal hxa hx4a hbw hsd5 t1 t2 hcl z1
      generalize sd.tell 0 = b0 at *
      go_wp2
      go_loopw [12] (fun vv wr => ∃ v : Nat, vv = .int .i64 v ∧ v ≤ K ∧ Below W5.heap.size W5 wr) (fun vv _ => K - (intOf vv).toNat)
      case atStart => exact ⟨0, rfl, Nat.zero_le _, Below.refl _ _⟩
      case round =>
        obtain ⟨v, rfl, hv, hbv⟩ := hrel
        have hx6 := (hbv.block _ hwl5).trans HX5.out
        have hxa6 := (hbv.block _ hwo5).trans HXA.out
        have z0 := Lib.cell_of_heap hx6 0
        have y0 := Lib.cell_of_heap hxa6 0
        have y1 := Lib.cell_of_heap hxa6 1
        simp only [List.getElem?_toArray, List.getElem?_cons_zero, List.getElem?_cons_succ] at z0 y0 y1
        have HBV := Lib.hid hbv
        clear hx6 hxa6
        by_cases hvl : v < K
        · have hvI : (v : Int) < (K : Int) := by omega
          have hv0 : (0 : Int) ≤ (v : Int) := by omega
          obtain ⟨r, r1, r2, r3, r4⟩ := HSI.out.nxt (i := 0) HSI.out.pos hvl
          obtain ⟨u1, u2⟩ := HSI.out.tell r4
          have hsd6 := HSD5.out.on hbv
          obtain ⟨ar, R, rc, hBe, har, w0', hrc, hrow⟩ := hsd6.row_at r1
          subst hBe
          rw [add_zero'] at w0'
          obtain ⟨ai, hRe, hai, w1'⟩ := ints_at' hrow r3
          subst hRe
          obtain ⟨ao', hao', _, w2'⟩ := ints_at' hsd6.out u1
          injection hao' with hao'
          subst hao'
          have hcl := HLK.out.1
          have hsl6 := Sl.on (Sl.on HS3.out HBW.out) hbv
          obtain ⟨ac', hac', _, w3'⟩ := ints_at' hsl6 (getD_at (l := cs) (v := v) (by omega))
          injection hac' with hac'
          subst hac'
          obtain ⟨ac', hac', _, w4'⟩ := ints_at' hsl6 (getD_at (l := cs) (v := sd.tell (sd.nxt 0 v)) (by omega))
          injection hac' with hac'
          subst hac'
          have hnxl : sd.nx.length = sd.out.length := HSI.out.len
          have hpI : (0 : Int) < (sd.nx.length : Int) := by omega
          have hpN : 0 < sd.nx.length := by omega
          have hvr : (v : Int) < (r.length : Int) := by omega
          have hkI : ((sd.nxt 0 v : Nat) : Int) < (sd.out.length : Int) := by omega
          have hk0 : (0 : Int) ≤ ((sd.nxt 0 v : Nat) : Int) := by omega
          have hoI : ((sd.tell (sd.nxt 0 v) : Nat) : Int) < (cs.length : Int) := by omega
          have ho0 : (0 : Int) ≤ ((sd.tell (sd.nxt 0 v) : Nat) : Int) := by omega
          have hvcI : (v : Int) < (cs.length : Int) := by omega
          have HON2 := Lib.hid (HON.out v)
          have HTP := Lib.hid (fun (h0 : 0 ≤ cs.getD v (-1)) => show cs.getD v (-1) ≤ 4611686018427387904 from (HCS.out.some v h0).2.1)
          clear r1 r2 r3 r4 u1 u2 hsd6 hrow hsl6 hnxl hcl
          generalize sd.tell (sd.nxt 0 v) = one at *
          generalize sd.nxt 0 v = kk at *
          generalize cs.getD v (-1) = cv at *
          generalize cs.getD one (-1) = co at *
          go_upto_region 17 with fail
          go_cut [88] (fun s88 wx => s88 = .bool false ∧ wx = wr.drew)
          case first =>
            by_cases hc0 : 0 ≤ cv
            · obtain ⟨g1, g2⟩ := HON2.out hc0
              have g3 := HTP.out hc0
              have g4 : ¬ co < 0 := by omega
              have g5 : ¬ cv + 1 < co := by omega
              have gw : IntKind.i64.wrap (cv + 1) = cv + 1 := IntWalk.i64_in _ (by omega)
              go_region
              all_goals
                go_wp2_with fail
                go_meet
                exact ⟨rfl, rfl⟩
            · have hc1 : ¬ 0 ≤ cv := hc0
              have hc2 : cv < 0 := by omega
              go_region
              all_goals
                go_wp2_with fail
                go_meet
                exact ⟨rfl, rfl⟩
          case rest =>
            obtain ⟨rfl, rfl⟩ := hcut
            have HBF := Lib.hid (Below.drew HBV.out)
            clear hbv
            go_wp2
            go_roundw
            case rel => exact ⟨v + 1, by go_num, by omega, HBF.out⟩
            case measure => simp [intOf]; omega
        · obtain rfl : v = K := by omega
          have HBF := Lib.hid (HBW.out.trans (HBV.out.mono HBW.out.size))
          clear hbv
          go_wp2
          go_roundw
          case rel => exact ⟨i + 1, by go_num, by omega, HBF.out⟩
          case measure => simp [intOf]; omega
    · obtain rfl : i = h.labs.length := by omega
      have HBF := Lib.hid (HB3.out.trans (HBR.out.mono HB3.out.size))
      go_wp2_with fail
      refine (lives_any _).mono ?_
      rintro e W6 ⟨rfl, b6⟩
      have HB6 := Lib.hid (HBF.out.trans (b6.mono HBF.out.size))
      clear b6
      go_wp2
      go_ret
      exact ⟨rfl, HB6.out⟩
end Go.Proofs.Ytbipdnnalhdoaaa
