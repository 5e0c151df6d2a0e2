/- The walk of the law HedgeLeast. -/
import Derived.Test.YtfiojodpcpkiaaaHU
import Derived.Test.YtfiojodpcpkiaaaHG
import Derived.Test.YtfiojodpcpkiaaaHK
namespace Go.Proofs.Ytfiojodpcpkiaaa
open Go.RowKit Go.Maps Go.WideMaps
attribute [local go_sem ↓] Go.wp_at_zero Go.wp_at_succ

theorem SlP.drop {w : World} {S : Nat → Prop} {z n k : Nat} {a : Addr} {cs : List Cl} (h : SlP w S z (some a) n cs) (hk : k ≤ n) : SlP w S z (some (a.add (k * z))) (n - k) (cs.drop (k * z)) := by
  obtain ⟨xs, h1, h2⟩ := h
  refine ⟨xs.drop (k * z), ⟨?_, fun hne => ?_⟩, h2.drop _⟩
  · rw [List.length_drop, h1.1, Nat.mul_sub_right_distrib]
  · obtain ⟨a', e, hS, hc⟩ := h1.2 (fun e => hne (by rw [e]; simp))
    injection e with e
    subst e
    refine ⟨_, rfl, by rw [block_add]; exact hS, fun j u hu => ?_⟩
    rw [List.getElem?_drop] at hu
    rw [add_add]
    exact hc _ u hu
theorem costs_eq {h : Hd} {cs rs : List Int} (hK : h.K.toNat ≤ 4) (hl : cs.length = h.K.toNat) (h1 : CostsP h.mc (fun v => cs.getD v (-1))) (h2 : CostR h rs) : cs = rs := by
  have hset := setN_le rs
  have hlr := h2.ci.len
  have hTT := TT_40 (m := setN rs) (by omega)
  apply List.ext_getElem?
  intro v
  by_cases hv : v < h.K.toNat
  · rw [getD_at' (l := cs) (by omega), getD_at' (l := rs) (by omega)]
    congr 1
    have hb := h2.ci.bnd v
    have hlo := h2.ci.lo v
    by_cases hc : cs.getD v (-1) < 0
    · obtain ⟨e1, e2⟩ := h1.none v hc
      by_cases hr : 0 ≤ rs.getD v (-1)
      · obtain ⟨t, ht, hw⟩ := h2.ci.snd v hr
        have := e2 t ht
        unfold topC at this
        omega
      · omega
    · obtain ⟨_, _, ⟨t, ht⟩, e4, e5⟩ := h1.some v (show 0 ≤ cs.getD v (-1) by omega)
      obtain ⟨r1, _⟩ := h2.cmp t v ht
      obtain ⟨t', ht', hw'⟩ := h2.ci.snd v r1
      have e6 := e5 t' ht'
      obtain ⟨t'', ht'', hw''⟩ := e4 (by unfold topC; omega)
      have r2 := (h2.cmp t'' v ht'').2
      omega
  · rw [List.getElem?_eq_none (by omega), List.getElem?_eq_none (by omega)]
theorem st_total {M : Mc} {L : Nat} (hL : M.L = L) {l : List Tr} (hl : LabB L l) : ∀ t ∈ l, ∃ v, stT M t = some v := by
  induction hl with
  | nil => intro t ht; cases ht
  | @cons t l h0 h1 h2 _ _ ih2 =>
    intro t' ht
    rcases List.mem_cons.1 ht with rfl | ht
    · cases t' with
      | mk a ks =>
        simp only [Tr.lab, Tr.kids] at h0 h1 h2
        obtain ⟨s1, hs1⟩ := thr_total hL h2 a.toNat 0
        exact ⟨_, by rw [stT, if_pos ⟨h0, by omega⟩, hs1, Option.map_some]⟩
    · exact ih2 t' ht
/-- what a tree of states costs -/
theorem costs_tree {h : Hd} {cs : List Int} {t : Tr} {v : Nat} (h1 : CostsP h.mc (fun v => cs.getD v (-1))) (hs : stT h.mc t = some v) (hw : wtT t ≤ 1000) : 0 ≤ cs.getD v (-1) ∧ cs.getD v (-1) ≤ wtT t := by
  by_cases hc : cs.getD v (-1) < 0
  · have := (h1.none v hc).2 t hs
    unfold topC at this
    omega
  · exact ⟨by omega, (h1.some v (show 0 ≤ cs.getD v (-1) by omega)).2.2.2.2 t hs⟩
theorem wt_mem {l : List Tr} {t : Tr} (h : t ∈ l) : wtT t ≤ wtTs l := by
  induction l with
  | nil => cases h
  | cons t' l ihl =>
    rw [wtTs]
    rcases List.mem_cons.1 h with rfl | h2
    · omega
    · have := ihl h2; omega
set_option maxHeartbeats 4000000 in
set_option maxRecDepth 100000 in
theorem HedgeLeast_calls {w : World} {x : Int} {A B D : Option Addr} {c c' cD : Nat} {ls : List (List Int)} {l lt : List Int} (hx : IntB x) (HL : RowsIn w A ls) (_ : Cap ls.length c) (HR : SlP w (fun b => b < w.heap.size) 1 B l.length (l.map .i)) (hcl : Cap l.length c') (hb : ∀ x ∈ l, IntB x)
    (HT : SlP w (fun b => b < w.heap.size) 1 D lt.length (lt.map .i)) (hct : Cap lt.length cD) (hbt : ∀ x ∈ lt, IntB x) :
    Calls Try.prog 5 #[.int .i64 x, .slice A ls.length c, .slice B l.length c', .slice D lt.length cD] w fun e w' => e = .returned (.bool true) ∧ Below w.heap.size w w' := by
  have HG := Lib.hid (Good_any (c := c) (c' := c') hx HL HR hcl.len hb)
  have HTI := Lib.hid HT
  have HTB := Lib.hid (And.intro hct.len hbt)
  clear HL HR hb HT hct hbt
  go_enter Try.func5, Try.ntmps5
  go_wp2_with fail
  refine HG.out.mono ?_
  rintro e W1 ⟨h, A1, c1, B1, c2, C1, c3, rfl, hO, hL3, hV, b1⟩
  have HL3 := Lib.hid hL3
  have hL3i : h.labs.length ≤ 3 := by omega
  have hL0 : 0 < h.labs.length := by omega
  clear hL3
  have hV1 := hV.more (S' := fun b => b < W1.heap.size) fun b hb => hb.2
  have hal := (Below.refl _ W1).alloc (Nat.le_refl _) (.cells #[.int .i64 h.K, .slice A1 h.labs.length c1, .slice B1 h.root.nx.length c2, .slice C1 h.root.out.length c3] 28)
  have hxh := heap_alloc_new W1 (.cells #[.int .i64 h.K, .slice A1 h.labs.length c1, .slice B1 h.root.nx.length c2, .slice C1 h.root.out.length c3] 28)
  go_upto_region 2 with fail
  generalize W1.alloc (.cells #[.int .i64 h.K, .slice A1 h.labs.length c1, .slice B1 h.root.nx.length c2, .slice C1 h.root.out.length c3] 28) = W2 at *
  have hwl := (Array.getElem?_eq_some_iff.1 hxh).1
  have HV2 := Lib.hid (hV1.on hal)
  have HX2 := Lib.hid hxh
  have HB2 := Lib.hid (b1.trans (hal.mono b1.size))
  have HTr := Lib.hid (Trees_any (w := W2) (c := cD) ((SlP.keep HTI.out fun p hp => HB2.out.cell hp).more fun b hb => Nat.lt_of_lt_of_le hb HB2.out.size) HTB.out.1 HTB.out.2)
  clear hV hV1 hal hxh b1 HG
  go_wp2_with fail
  refine HTr.out.mono ?_
  rintro e W3 ⟨A3, c4, l3, xs3, rfl, ho3, hcs3, hlab3, hw3, b3⟩
  have hcp3 := own_cap ho3
  have HT3 := Lib.hid (show SlP W3 (fun b => b < W3.heap.size) 2 A3 l3.length (trsC l3) from ⟨xs3, (RdP.of_own ho3).more fun b hb => hb.2, hcs3.more fun b hb => hb.1.2⟩)
  have HB3 := Lib.hid (HB2.out.trans (b3.mono HB2.out.size))
  have HX3 := Lib.hid ((b3.block _ hwl).trans HX2.out)
  have HV3 := Lib.hid (HV2.out.on b3)
  have hwl3 := Nat.lt_of_lt_of_le hwl b3.size
  have hlen3 := wtTs_ge l3
  have HLB := Lib.hid (show LabB h.labs.length l3 by rw [HL3.out]; exact hlab3)
  have x0 := Lib.cell_of_heap HX3.out 0
  have x1 := Lib.cell_of_heap HX3.out 1
  have x2 := Lib.cell_of_heap HX3.out 2
  have x3 := Lib.cell_of_heap HX3.out 3
  simp only [List.getElem?_toArray, List.getElem?_cons_zero, List.getElem?_cons_succ] at x0 x1 x2 x3
  clear ho3 hcs3 b3 HTr HX2 HV2 hlab3
  have HLS := Lib.hid (Least_any HV3.out hO (by decide))
  go_wp2_with fail
  refine HLS.out.mono ?_
  intro e W4 hR
  obtain ⟨A4, n4, c5, b4, rfl⟩ := hR.shape
  have HR4 := Lib.hid hR
  have HX4 := Lib.hid ((hR.1.block _ hwl3).trans HX3.out)
  have HB4 := Lib.hid (HB3.out.trans (hR.1.mono HB3.out.size))
  have HV4 := Lib.hid (HV3.out.on hR.1)
  have HT4 := Lib.hid ((SlP.keep HT3.out fun p hp => hR.1.cell hp).more fun b hb => Nat.lt_of_lt_of_le hb hR.1.size)
  have hwl4 := Nat.lt_of_lt_of_le hwl3 hR.1.size
  have y0 := Lib.cell_of_heap HX4.out 0
  have y1 := Lib.cell_of_heap HX4.out 1
  have y2 := Lib.cell_of_heap HX4.out 2
  have y3 := Lib.cell_of_heap HX4.out 3
  simp only [List.getElem?_toArray, List.getElem?_cons_zero, List.getElem?_cons_succ] at y0 y1 y2 y3
  clear hR x0 x1 x2 x3 HLS
  have HRL := Lib.hid (rLeast_any HV4.out hO)
  go_wp2_with fail
  refine HRL.out.mono ?_
  rintro e W5 ⟨n, rfl, hn, b5⟩
  have HN := Lib.hid hn
  have HX5 := Lib.hid ((b5.block _ hwl4).trans HX4.out)
  have HB5 := Lib.hid (HB4.out.trans (b5.mono HB4.out.size))
  have HV5 := Lib.hid (HV4.out.on b5)
  have HT5 := Lib.hid ((SlP.keep HT4.out fun p hp => b5.cell hp).more fun b hb => Nat.lt_of_lt_of_le hb b5.size)
  have hwl5 := Nat.lt_of_lt_of_le hwl4 b5.size
  have HB45 := Lib.hid b5
  have x0 := Lib.cell_of_heap HX5.out 0
  have x1 := Lib.cell_of_heap HX5.out 1
  have x2 := Lib.cell_of_heap HX5.out 2
  have x3 := Lib.cell_of_heap HX5.out 3
  simp only [List.getElem?_toArray, List.getElem?_cons_zero, List.getElem?_cons_succ] at x0 x1 x2 x3
  clear hn b5 y0 y1 y2 y3 HRL
  have HCS := Lib.hid (Costs_any HV5.out hO (by decide) hL0)
  go_wp2_with fail
  refine HCS.out.mono ?_
  rintro e W6 ⟨A6, c6, cs, rfl, hcp6, hlen6, hsl6, hcs6, b6⟩
  have HX6 := Lib.hid ((b6.block _ hwl5).trans HX5.out)
  have HB6 := Lib.hid (HB5.out.trans (b6.mono HB5.out.size))
  have HV6 := Lib.hid (HV5.out.on b6)
  have HT6 := Lib.hid ((SlP.keep HT5.out fun p hp => b6.cell hp).more fun b hb => Nat.lt_of_lt_of_le hb b6.size)
  have hwl6 := Nat.lt_of_lt_of_le hwl5 b6.size
  have HB46 := Lib.hid (HB45.out.trans (b6.mono HB45.out.size))
  have HS6 := Lib.hid (hsl6.more (S' := fun b => b < W6.heap.size) fun b hb => hb.2)
  have HCP := Lib.hid (And.intro hcs6 hlen6)
  have y0 := Lib.cell_of_heap HX6.out 0
  have y1 := Lib.cell_of_heap HX6.out 1
  have y2 := Lib.cell_of_heap HX6.out 2
  have y3 := Lib.cell_of_heap HX6.out 3
  simp only [List.getElem?_toArray, List.getElem?_cons_zero, List.getElem?_cons_succ] at y0 y1 y2 y3
  clear hsl6 hcs6 hlen6 hcp6 b6 x0 x1 x2 x3 HCS
  have HRC := Lib.hid (rCosts_any HV6.out hO)
  go_wp2_with fail
  refine HRC.out.mono ?_
  rintro e W7 ⟨g7, K7, rs, rfl, hK7, hlr, hor, hcr, b7⟩
  have hK4 : h.K.toNat ≤ 4 := by have := hO.fewK; omega
  have heq := costs_eq hK4 HCP.out.2 HCP.out.1 hcr
  have HX7 := Lib.hid ((b7.block _ hwl6).trans HX6.out)
  have HB7 := Lib.hid (HB6.out.trans (b7.mono HB6.out.size))
  have HV7 := Lib.hid (HV6.out.on b7)
  have HT7 := Lib.hid ((SlP.keep HT6.out fun p hp => b7.cell hp).more fun b hb => Nat.lt_of_lt_of_le hb b7.size)
  have hwl7 := Nat.lt_of_lt_of_le hwl6 b7.size
  have HB47 := Lib.hid (HB46.out.trans (b7.mono HB46.out.size))
  have HS7 := Lib.hid (Sl.on HS6.out b7)
  have hlc : cs.length = K7 := by rw [HCP.out.2]; exact hK7
  have HSAME := Lib.hid (show Calls Try.prog 22 #[.slice A6 cs.length c6, .slice (some ⟨g7, 0, none⟩) K7 K7] W7 fun e w' => e = .returned (.bool true) ∧ Below W7.heap.size W7 w' from by
    have h9 := same_any (cA := c6) (cB := K7) HS7.out (by rw [heq]; exact own_slp hor hlr) (by omega)
    rw [hlc] at h9 ⊢
    exact h9)
  clear heq hcr hor hlr hK7 b7 y0 y1 y2 y3 HRC hlc
  go_wp2_with fail
  refine HSAME.out.mono ?_
  rintro e W8 ⟨rfl, b8⟩
  have HX8 := Lib.hid ((b8.block _ hwl7).trans HX7.out)
  have HB8 := Lib.hid (HB7.out.trans (b8.mono HB7.out.size))
  have HV8 := Lib.hid (HV7.out.on b8)
  have HT8 := Lib.hid ((SlP.keep HT7.out fun p hp => b8.cell hp).more fun b hb => Nat.lt_of_lt_of_le hb b8.size)
  have hwl8 := Nat.lt_of_lt_of_le hwl7 b8.size
  have HB48 := Lib.hid (HB47.out.trans (b8.mono HB47.out.size))
  have HS8 := Lib.hid (Sl.on HS7.out b8)
  have hcl4 : cs.length ≤ 4 := by rw [HCP.out.2]; exact hK4
  clear b8 HSAME HX3 HX4 HX5 HX6 HX7 HV3 HV4 HV5 HV6 HV7 HT3 HT4 HT5 HT6 HT7 HS6 HS7 HB45 HB46 HB47 HB3 HB4 HB5 HB6 HB7
  go_wp2
  go_loopw [15] (fun iv wr => ∃ i : Nat, iv = .int .i64 i ∧ i ≤ l3.length ∧ Below W8.heap.size W8 wr) (fun iv _ => l3.length - (intOf iv).toNat)
  case atStart => exact ⟨0, rfl, Nat.zero_le _, Below.refl _ _⟩
  case round =>
    obtain ⟨i, rfl, hi, hbr⟩ := hrel
    obtain ⟨wo, rfl⟩ : ∃ wo : World, wo = wr := ⟨_, rfl⟩
    have hx4 := (hbr.block _ hwl8).trans HX8.out
    have hwlo := (Array.getElem?_eq_some_iff.1 hx4).1
    have x0 := Lib.cell_of_heap hx4 0
    have x1 := Lib.cell_of_heap hx4 1
    have x2 := Lib.cell_of_heap hx4 2
    have x3 := Lib.cell_of_heap hx4 3
    simp only [List.getElem?_toArray, List.getElem?_cons_zero, List.getElem?_cons_succ] at x0 x1 x2 x3
    have HBR := Lib.hid hbr
    have HVo := Lib.hid (HV8.out.on hbr)
    have HTo := Lib.hid ((SlP.keep HT8.out fun p hp => hbr.cell hp).more fun b hb => Nat.lt_of_lt_of_le hb hbr.size)
    have HSo := Lib.hid (Sl.on HS8.out hbr)
    clear hx4 hbr
    by_cases hlt : i < l3.length
    · obtain ⟨t, ht⟩ : ∃ t, l3[i]? = some t := ⟨_, List.getElem?_eq_getElem hlt⟩
      have htm := List.mem_of_getElem? ht
      obtain ⟨v, hv⟩ := st_total (M := h.mc) rfl HLB.out t htm
      have hvK := (thr_lt (hO.mcOk (by decide))).1 t v hv
      have hwt := wt_mem htm
      obtain ⟨hc0, hc1⟩ := costs_tree HCP.out.1 hv (by omega)
      have hvl : v < cs.length := by rw [HCP.out.2]; exact hvK
      obtain ⟨a, K, kc, rfl, hab, k0, k1, hkc, hkx⟩ := trs_at HTo.out ht
      have r0 := fun w' (hw' : Below wo.heap.size wo w') => (hw'.cell (p := ⟨W1.heap.size, 0, none⟩) hwlo).trans x0
      have r1 := fun w' (hw' : Below wo.heap.size wo w') => (hw'.cell (p := ⟨W1.heap.size, 1, none⟩) hwlo).trans x1
      have r2 := fun w' (hw' : Below wo.heap.size wo w') => (hw'.cell (p := ⟨W1.heap.size, 2, none⟩) hwlo).trans x2
      have r3 := fun w' (hw' : Below wo.heap.size wo w') => (hw'.cell (p := ⟨W1.heap.size, 3, none⟩) hwlo).trans x3
      have hab2 : (a.add (i * 2)).block < wo.heap.size := by rw [block_add]; exact hab
      have r4 := fun w' (hw' : Below wo.heap.size wo w') => (hw'.cell (p := a.add (i * 2)) hab2).trans k0
      have r5 := fun w' (hw' : Below wo.heap.size wo w') => (hw'.cell (p := ⟨(a.add (i * 2)).block, (a.add (i * 2)).off + 1, none⟩) hab2).trans k1
      have hiI : (i : Int) < (l3.length : Int) := by omega
      have hi0 : (0 : Int) ≤ (i : Int) := by omega
      have HS1 : Hid (∀ w', Below wo.heap.size wo w' → Calls Try.prog 14 #[hdVal h A1 c1 B1 c2 C1 c3, .agg #[.int .i64 t.lab, .slice K t.kids.length kc]] w' fun e w'' => e = .returned (.int .i64 (v : Int)) ∧ Below w'.heap.size w' w'') :=
        Lib.hid fun w' hw' => by
          have h9 := (rstate_any hO (by decide)) t w' A1 B1 C1 c1 c2 c3 K kc (HVo.out.on hw') ((SlP.keep hkx fun p hp => hw'.cell hp).more fun b hb => Nat.lt_of_lt_of_le hb hw'.size) hkc
          rw [hv] at h9
          exact h9
      have hb0 : Below wo.heap.size wo wo := Below.refl _ _
      have HSUB := Lib.hid (show SlP wo (fun b => b < wo.heap.size) 2 (some (a.add (i * 2))) 1 (trsC [t]) from by
        have h8 := (SlP.drop HTo.out (k := i) hi).take (k := 1) (by omega)
        have h9 : ((trsC l3).drop (i * 2)).take (1 * 2) = trsC [t] := by
          have h7 := trsC_at hlt
          have h6 : l3[i] = t := by
            rw [List.getElem?_eq_getElem hlt] at ht
            injection ht
          rw [h6] at h7
          apply List.ext_getElem?
          intro j
          rw [trsC, trsC, trC_eq, List.getElem?_take, List.getElem?_drop]
          match j with
          | 0 => simpa using h7.1
          | 1 => simpa using h7.2
          | j + 2 => simp; intro h5; omega
        rw [h9] at h8
        exact h8)
      have HWT := Lib.hid (And.intro hwt hc1)
      clear ht hkx k0 k1 hab x0 x1 x2 x3 hv hvK htm
      go_upto_region 11 with fail
      go_cut [16] (fun s16 wx => s16 = .int .i64 (v : Int) ∧ Below wo.heap.size wo wx)
      case first =>
        go_region_held3 (fun w' => Below wo.heap.size wo w')
          (repeat (first | assumption | with_reducible refine Below.drew ?_ | with_reducible refine bt (a := wo) ?_ br))
          (first | (go_at_call 14; refine (HS1.out _ (by assumption)).mono ?_; rintro e WA ⟨rfl, br⟩))
        all_goals
          go_wp2_with fail
          go_meet
          exact ⟨rfl, by (repeat (first | assumption | with_reducible refine Below.drew ?_ | with_reducible refine bt (a := wo) ?_ br))⟩
      case rest =>
        obtain ⟨rfl, hbx⟩ := hcut
        rename World => wx
        have HBX := Lib.hid (HBR.out.trans (hbx.mono HBR.out.size))
        obtain ⟨ac, rfl, hac, q0⟩ := ints_at' (Sl.on HSo.out hbx) (getD_at' (l := cs) hvl)
        have hvI : (v : Int) < (cs.length : Int) := by omega
        have hv0 : (0 : Int) ≤ (v : Int) := by omega
        have hcn : ¬ cs.getD v (-1) < 0 := by omega
        have HSUB2 := Lib.hid ((SlP.keep HSUB.out fun p hp => hbx.cell hp).more fun b hb => Nat.lt_of_lt_of_le hb hbx.size)
        generalize cs.getD v (-1) = cv at *
        have hcc := hcp3.1
        have hs1 : (i : Int) + 1 ≤ (c4 : Int) := by omega
        have hs2 : ¬ ((c4 : Int) < (i : Int) + 1) := by omega
        have hs3 : ¬ (c4 = i) := by omega
        have hs4 : i ≤ i + 1 := by omega
        clear hbx r0 r1 r2 r3 r4 r5 HS1 hcc
        have HW := Lib.hid (rweight_any [t] wx (some (a.add (i * 2))) (c4 - i) HSUB2.out (by rw [wtTs, wtTs]; have := HWT.out.1; omega))
        have hcw : ¬ ((wtTs [t] : Nat) : Int) < cv := by
          have := HWT.out.2
          rw [wtTs, wtTs]
          omega
        generalize ((wtTs [t] : Nat) : Int) = wt at *
        go_wp2_with fail
        refine HW.out.mono ?_
        rintro e W9 ⟨rfl, b9⟩
        have HB9 := Lib.hid (HBX.out.trans (b9.mono HBX.out.size))
        clear b9
        go_wp2
        go_roundw
        case rel => exact ⟨i + 1, by go_num, by omega, HB9.out⟩
        case measure => simp [intOf]; omega
    · obtain rfl : l3.length = i := by omega
      have hiI : ¬ (l3.length : Int) < (l3.length : Int) := by omega
      have HA2 := Lib.hid (raccepts_any (kc := c4) HVo.out hO (by decide) HTo.out hcp3)
      go_wp2_with fail
      refine HA2.out.mono ?_
      rintro e W9 ⟨rfl, b9⟩
      have hx9 := (b9.block _ hwlo).trans ((HBR.out.block _ hwl8).trans HX8.out)
      have HX9 := Lib.hid hx9
      have hwl9 := (Array.getElem?_eq_some_iff.1 hx9).1
      have HB9 := Lib.hid (HB8.out.trans ((HBR.out.trans (b9.mono HBR.out.size)).mono HB8.out.size))
      have HB49 := Lib.hid (HB48.out.trans ((HBR.out.trans (b9.mono HBR.out.size)).mono HB48.out.size))
      have HV9 := Lib.hid (HVo.out.on b9)
      have HT9 := Lib.hid ((SlP.keep HTo.out fun p hp => b9.cell hp).more fun b hb => Nat.lt_of_lt_of_le hb b9.size)
      obtain ⟨_, hR4⟩ := HR4.out
      rcases HN.out with ⟨hn1, hn2⟩ | ⟨hn1, hn2, ⟨lm, hn3, hn4⟩, hn5⟩
      · have hacc : accB h.mc l3 = false := by
          cases ha : accB h.mc l3 with
          | false => rfl
          | true => exact absurd (accB_iff.1 ha) (hn2 l3)
        rcases hR4 with ⟨A5, c8, lw, e1, _, _, e4, _, _⟩ | ⟨e1, _⟩
        · exact absurd e4 (hn2 lw)
        · injection e1 with e1
          injection e1 with e1
          simp only [Array.mk.injEq, List.cons.injEq, and_true, Value.slice.injEq, Value.bool.injEq] at e1
          obtain ⟨⟨rfl, rfl, rfl⟩, rfl⟩ := e1
          subst hn1
          clear b9 hx9 hn2 x0 x1 x2 x3
          rw [hacc]
          clear hacc
          go_wp2_with fail
          refine (lives_any _).mono ?_
          rintro e W10 ⟨rfl, b10⟩
          have HBF := Lib.hid (HB9.out.trans (b10.mono HB9.out.size))
          clear b10
          go_wp2
          go_ret
          exact ⟨rfl, HBF.out⟩
      · rcases hR4 with ⟨A5, c8, lw, e1, e2, e3, e4, e5, e6⟩ | ⟨e1, e2⟩
        · injection e1 with e1
          injection e1 with e1
          simp only [Array.mk.injEq, List.cons.injEq, and_true, Value.slice.injEq, Value.bool.injEq] at e1
          obtain ⟨⟨rfl, rfl, rfl⟩, rfl⟩ := e1
          have hwn : ((wtTs lw : Nat) : Int) = n := by
            have h1 := e6 lm hn3
            have h2 := hn5 lw e4
            omega
          have hac : accB h.mc lw = true := accB_iff.2 e4
          have HTw := Lib.hid (show SlP W9 (fun b => b < W9.heap.size) 2 A4 lw.length (trsC lw) from (SlP.keep e3 fun p hp => HB49.out.cell hp.2).more fun b hb => Nat.lt_of_lt_of_le hb.2 HB49.out.size)
          have hge : accB h.mc l3 = true → n ≤ ((wtTs l3 : Nat) : Int) := fun ha => hn5 l3 (accB_iff.1 ha)
          have HGE := Lib.hid hge
          have HA3 := Lib.hid (show Calls Try.prog 16 #[hdVal h A1 c1 B1 c2 C1 c3, .slice A4 lw.length c5] W9 fun e w'' => e = .returned (.bool true) ∧ Below W9.heap.size W9 w'' from by
            have h9 := raccepts_any (kc := c5) HV9.out hO (by decide) HTw.out e2
            rw [hac] at h9
            exact h9)
          have HW1 := Lib.hid (fun w' (hw' : Below W9.heap.size W9 w') => show Calls Try.prog 18 #[.slice A4 lw.length c5] w' fun e w'' => e = .returned (.int .i64 n) ∧ Below w'.heap.size w' w'' from by
            have h9 := rweight_any lw w' A4 c5 ((SlP.keep HTw.out fun p hp => hw'.cell hp).more fun b hb => Nat.lt_of_lt_of_le hb hw'.size) (by omega)
            rw [hwn] at h9
            exact h9)
          have HW2 := Lib.hid (fun w' (hw' : Below W9.heap.size W9 w') => rweight_any l3 w' (A3 ) c4 ((SlP.keep HT9.out fun p hp => hw'.cell hp).more fun b hb => Nat.lt_of_lt_of_le hb hw'.size) (by omega))
          replace x0 := Lib.cell_of_heap hx9 0
          replace x1 := Lib.cell_of_heap hx9 1
          replace x2 := Lib.cell_of_heap hx9 2
          replace x3 := Lib.cell_of_heap hx9 3
          simp only [List.getElem?_toArray, List.getElem?_cons_zero, List.getElem?_cons_succ] at x0 x1 x2 x3
          have hn0 : ¬ n < 0 := by omega
          have hnn : (n == n) = true := by simp
          clear b9 hx9 hn3 hn4 hn5 e2 e3 e4 e5 e6 hwn hac hge HA2 hn1
          generalize ((wtTs l3 : Nat) : Int) = wl at *
          generalize accB h.mc l3 = acc at *
          go_wp2_with fail
          refine HA3.out.mono ?_
          rintro e W10 ⟨rfl, b10⟩
          have HB10 := Lib.hid b10
          clear b10 x0 x1 x2 x3
          go_wp2_with fail
          refine (HW1.out _ HB10.out).mono ?_
          rintro e W11 ⟨rfl, b11⟩
          have HB11 := Lib.hid (HB10.out.trans (b11.mono HB10.out.size))
          clear b11
          cases acc with
          | false =>
            go_wp2_with fail
            refine (lives_any _).mono ?_
            rintro e W12 ⟨rfl, b12⟩
            have HBF := Lib.hid (HB9.out.trans ((HB11.out.trans (b12.mono HB11.out.size)).mono HB9.out.size))
            clear b12
            go_wp2
            go_ret
            exact ⟨rfl, HBF.out⟩
          | true =>
            have hwl1 := HGE.out rfl
            go_wp2_with fail
            refine (HW2.out _ HB11.out).mono ?_
            rintro e W12 ⟨rfl, b12⟩
            have HB12 := Lib.hid (HB11.out.trans (b12.mono HB11.out.size))
            clear b12
            go_wp2_with fail
            refine (lives_any _).mono ?_
            rintro e W13 ⟨rfl, b13⟩
            have HBF := Lib.hid (HB9.out.trans ((HB12.out.trans (b13.mono HB12.out.size)).mono HB9.out.size))
            clear b13
            go_wp2
            go_ret
            exact ⟨rfl, HBF.out⟩
        · have := e2 lm hn3
          omega
end Go.Proofs.Ytfiojodpcpkiaaa
