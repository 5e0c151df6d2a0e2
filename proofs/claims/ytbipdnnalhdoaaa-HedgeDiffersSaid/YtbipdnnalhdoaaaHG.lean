/- The walk of the law HedgeRuns. -/
import Derived.Test.YtbipdnnalhdoaaaHF
import Derived.Test.YtbipdnnalhdoaaaHC
import Derived.Test.YtbipdnnalhdoaaaHy
namespace Go.Proofs.Ytbipdnnalhdoaaa
open Go.RowKit Go.Maps Go.WideMaps
attribute [local go_sem ↓] Go.wp_at_zero Go.wp_at_succ

/-- a row of trees with one more -/
theorem own_trs {w W4 w' : World} {A A' : Option Addr} {c c' : Nat} {l : List Tr} {xs : List Value} {k : Nat} (h1 : W4.ownsRow w.heap.size 38 2 (.slice A l.length c) l.length xs)
    (h2 : CsIsP W4 (fun b => (w.heap.size ≤ b ∧ b < W4.heap.size) ∧ (Value.slice A l.length c).ownBlock ≠ some b) (trsC l) xs)
    (ho : w'.ownsRow w.heap.size 38 2 (.slice A' (l.length + 1) c') (l.length + 1) (xs ++ [.int .i64 (k : Int), .slice none 0 0])) (hg : W4.grownBy w' (Value.slice A l.length c).ownBlock) :
    SlP w' (fun b => b < w'.heap.size) 2 A' (l.length + 1) (trsC (l ++ [.mk k []])) := by
  refine ⟨_, (RdP.of_own ho).more fun b hb => hb.2, ?_⟩
  rw [trsC_append]
  refine CsIsP.append ((h2.keep fun p hp => ?_).more fun b hb => Nat.lt_of_lt_of_le hb.1.2 hg.size) ?_
  · exact World.cell?_of_block (hg.block p.block hp.1.2 (fun e => hp.2 e.symm))
  · rw [trsC, trC_eq, trsC]
    exact CsIsP.cons (CIsP.int _ _ _) (CsIsP.cons (CIsP.sl (SlP.nil _ _ _ _) ⟨Nat.le_refl _, by decide⟩) (CsIsP.nil _ _))
theorem accB_odd {M : Mc} {l : List Tr} (hL : M.L = 3) : accB M (l ++ [.mk (3 : Nat) []]) = false := by
  have h1 : stT M (.mk (3 : Nat) []) = none := stT_out (by simp only [Tr.lab]; omega)
  unfold accB
  rw [thrT_none (i := l.length) (t := .mk (3 : Nat) []) (by simp) h1]
  rfl
set_option maxHeartbeats 4000000 in
set_option maxRecDepth 100000 in
theorem HedgeRuns_calls {w : World} {x : Int} {A B D : Option Addr} {c c' cD : Nat} {ls : List (List Int)} {l lt : List Int} (hx : IntB x) (HL : RowsIn w A ls) (_ : Cap ls.length c) (HR : SlP w (fun b => b < w.heap.size) 1 B l.length (l.map .i)) (hcl : Cap l.length c') (hb : ∀ x ∈ l, IntB x)
    (HT : SlP w (fun b => b < w.heap.size) 1 D lt.length (lt.map .i)) (hct : Cap lt.length cD) (hbt : ∀ x ∈ lt, IntB x) :
    Calls Try.prog 4 #[.int .i64 x, .slice A ls.length c, .slice B l.length c', .slice D lt.length cD] w fun e w' => e = .returned (.bool true) ∧ Below w.heap.size w w' := by
  have HG := Lib.hid (Good_any (c := c) (c' := c') hx HL HR hcl.len hb)
  have HTI := Lib.hid HT
  have HTB := Lib.hid (And.intro hct.len hbt)
  clear HL HR hb HT hct hbt
  go_enter Try.func4, Try.ntmps4
  go_wp2_with fail
  refine HG.out.mono ?_
  rintro e W1 ⟨h, A1, c1, B1, c2, C1, c3, rfl, hO, hL3, hV, b1⟩
  have HL3 := Lib.hid hL3
  have hL3i : h.labs.length ≤ 3 := by omega
  have hL0 : 0 < h.labs.length := by omega
  clear hL3
  have hV1 := hV.more (S' := fun b => b < W1.heap.size) fun b hb => hb.2
  have hal := (Below.refl _ W1).alloc (Nat.le_refl _) (.cells #[.int .i64 h.K, .slice A1 h.labs.length c1, .slice B1 h.root.nx.length c2, .slice C1 h.root.out.length c3] 28)
  have hxh := heap_alloc_new W1 (.cells #[.int .i64 h.K, .slice A1 h.labs.length c1, .slice B1 h.root.nx.length c2, .slice C1 h.root.out.length c3] 28)
  go_upto_region 2 with fail
  generalize W1.alloc (.cells #[.int .i64 h.K, .slice A1 h.labs.length c1, .slice B1 h.root.nx.length c2, .slice C1 h.root.out.length c3] 28) = W2 at *
  have hwl := (Array.getElem?_eq_some_iff.1 hxh).1
  have HV2 := Lib.hid (hV1.on hal)
  have HX2 := Lib.hid hxh
  have HB2 := Lib.hid (b1.trans (hal.mono b1.size))
  have HTr := Lib.hid (Trees_any (w := W2) (c := cD) ((SlP.keep HTI.out fun p hp => HB2.out.cell hp).more fun b hb => Nat.lt_of_lt_of_le hb HB2.out.size) HTB.out.1 HTB.out.2)
  clear hV hV1 hal hxh b1 HG
  go_wp2_with fail
  refine HTr.out.mono ?_
  rintro e W3 ⟨A3, c4, l3, xs3, rfl, ho3, hcs3, hlab3, hw3, b3⟩
  have hcp3 := own_cap ho3
  have HT3 := Lib.hid (show SlP W3 (fun b => b < W3.heap.size) 2 A3 l3.length (trsC l3) from ⟨xs3, (RdP.of_own ho3).more fun b hb => hb.2, hcs3.more fun b hb => hb.1.2⟩)
  have HB3 := Lib.hid (HB2.out.trans (b3.mono HB2.out.size))
  have HX3 := Lib.hid ((b3.block _ hwl).trans HX2.out)
  have HV3 := Lib.hid (HV2.out.on b3)
  have hwl3 := Nat.lt_of_lt_of_le hwl b3.size
  have hlen3 := wtTs_ge l3
  have HTr' := Lib.hid (Trees_any (w := W3) (c := cD) ((SlP.keep HTI.out fun p hp => HB3.out.cell hp).more fun b hb => Nat.lt_of_lt_of_le hb HB3.out.size) HTB.out.1 HTB.out.2)
  clear ho3 hcs3 b3 HTr HX2 HV2
  go_wp2_with fail
  refine HTr'.out.mono ?_
  rintro e W4 ⟨A4, c5, l4, xs4, rfl, ho4, hcs4, hlab4, hw4, b4⟩
  have hlen4 := wtTs_ge l4
  have hbs4 := b4.size
  go_upto_region 4 with (at_builtin; go_must (refine wpList_push_at rfl _ _ _ rfl W3.heap.size rowTr A4 l4.length c5 _ rfl ho4 [.int .i64 3, .slice none 0 0] _ rfl rfl (by simp [Value.oneCell']) (by unfold maxLen; omega) (by omega) hbs4 ?_); intro A5 c6 W5 hc6 ho5 hg5 hat5)
  have HT5 := Lib.hid (own_trs (k := 3) ho4 hcs4 ho5 hg5)
  have hcp5 := own_cap ho5
  have hb35 : Below W3.heap.size W3 W5 := b4.grown hg5 hbs4 (fun q hq => (ho4.lt q hq).1)
  have HB5 := Lib.hid (HB3.out.trans (hb35.mono HB3.out.size))
  have HX5 := Lib.hid ((hb35.block _ hwl3).trans HX3.out)
  have HV5 := Lib.hid (HV3.out.on hb35)
  have HT35 := Lib.hid ((SlP.keep HT3.out fun p hp => hb35.cell hp).more fun b hb => Nat.lt_of_lt_of_le hb hb35.size)
  have hwl5 := Nat.lt_of_lt_of_le hwl3 hb35.size
  have hll4 : (l4 ++ [Tr.mk ((3 : Nat) : Int) []]).length = l4.length + 1 := by simp
  have hodd := accB_odd (M := h.mc) (l := l4) HL3.out
  clear ho4 hcs4 b4 hat5 hg5 ho5 hb35 HTr' HX3 HV3 HT3
  have hst := (state_all hO (by decide)).2
  have hrst := rstate_any hO (by decide)
  have HST := Lib.hid (And.intro hst hrst)
  clear hst hrst
  go_wp2
  go_loopw [12] (fun iv wr => ∃ i : Nat, iv = .int .i64 i ∧ i ≤ l3.length ∧ Below W5.heap.size W5 wr) (fun iv _ => l3.length - (intOf iv).toNat)
  case atStart => exact ⟨0, rfl, Nat.zero_le _, Below.refl _ _⟩
  case round =>
    obtain ⟨i, rfl, hi, hbr⟩ := hrel
    obtain ⟨wo, rfl⟩ : ∃ wo : World, wo = wr := ⟨_, rfl⟩
    have hx4 := (hbr.block _ hwl5).trans HX5.out
    have hwlo := (Array.getElem?_eq_some_iff.1 hx4).1
    have x0 := Lib.cell_of_heap hx4 0
    have x1 := Lib.cell_of_heap hx4 1
    have x2 := Lib.cell_of_heap hx4 2
    have x3 := Lib.cell_of_heap hx4 3
    simp only [List.getElem?_toArray, List.getElem?_cons_zero, List.getElem?_cons_succ] at x0 x1 x2 x3
    have r0 := fun w' (hw' : Below wo.heap.size wo w') => (hw'.cell (p := ⟨W1.heap.size, 0, none⟩) hwlo).trans x0
    have r1 := fun w' (hw' : Below wo.heap.size wo w') => (hw'.cell (p := ⟨W1.heap.size, 1, none⟩) hwlo).trans x1
    have r2 := fun w' (hw' : Below wo.heap.size wo w') => (hw'.cell (p := ⟨W1.heap.size, 2, none⟩) hwlo).trans x2
    have r3 := fun w' (hw' : Below wo.heap.size wo w') => (hw'.cell (p := ⟨W1.heap.size, 3, none⟩) hwlo).trans x3
    have HVo := Lib.hid (HV5.out.on hbr)
    have HBo := Lib.hid (HB5.out.trans (hbr.mono HB5.out.size))
    have HBR := Lib.hid hbr
    have HTo := Lib.hid ((SlP.keep HT35.out fun p hp => hbr.cell hp).more fun b hb => Nat.lt_of_lt_of_le hb hbr.size)
    have HTo5 := Lib.hid ((SlP.keep HT5.out fun p hp => hbr.cell hp).more fun b hb => Nat.lt_of_lt_of_le hb hbr.size)
    clear hx4 hbr x0 x1 x2 x3
    by_cases hlt : i < l3.length
    · obtain ⟨t, ht⟩ : ∃ t, l3[i]? = some t := ⟨_, List.getElem?_eq_getElem hlt⟩
      obtain ⟨a, K, kc, rfl, hab, k0, k1, hkc, hkx⟩ := trs_at HTo.out ht
      have hab2 : (a.add (i * 2)).block < wo.heap.size := by rw [block_add]; exact hab
      have r4 := fun w' (hw' : Below wo.heap.size wo w') => (hw'.cell (p := a.add (i * 2)) hab2).trans k0
      have r5 := fun w' (hw' : Below wo.heap.size wo w') => (hw'.cell (p := ⟨(a.add (i * 2)).block, (a.add (i * 2)).off + 1, none⟩) hab2).trans k1
      have hiI : (i : Int) < (l3.length : Int) := by omega
      have hi0 : (0 : Int) ≤ (i : Int) := by omega
      have HS1 : Hid (∀ w', Below wo.heap.size wo w' → Calls Try.prog 14 #[hdVal h A1 c1 B1 c2 C1 c3, .agg #[.int .i64 t.lab, .slice K t.kids.length kc]] w' fun e w'' => e = .returned (.int .i64 (stateI (stT h.mc t))) ∧ Below w'.heap.size w' w'') :=
        Lib.hid fun w' hw' => HST.out.1 t w' A1 B1 C1 c1 c2 c3 K kc (HVo.out.on hw') ((SlP.keep hkx fun p hp => hw'.cell hp).more fun b hb => Nat.lt_of_lt_of_le hb hw'.size) hkc
      have HS2 : Hid (∀ w', Below wo.heap.size wo w' → Calls Try.prog 15 #[hdVal h A1 c1 B1 c2 C1 c3, .agg #[.int .i64 t.lab, .slice K t.kids.length kc]] w' fun e w'' => e = .returned (.int .i64 (stateI (stT h.mc t))) ∧ Below w'.heap.size w' w'') :=
        Lib.hid fun w' hw' => HST.out.2 t w' A1 B1 C1 c1 c2 c3 K kc (HVo.out.on hw') ((SlP.keep hkx fun p hp => hw'.cell hp).more fun b hb => Nat.lt_of_lt_of_le hb hw'.size) hkc
      generalize stateI (stT h.mc t) = z at *
      have hz1 : (z == z) = true := by simp
      have hz2 : (z != z) = false := by simp
      have hb0 : Below wo.heap.size wo wo := Below.refl _ _
      clear ht hkx k0 k1 hab
      go_upto_region 7 with fail
      go_cut [42] (fun s42 wx => s42 = .bool false ∧ Below wo.heap.size wo wx)
      case first =>
        go_region_held3 (fun w' => Below wo.heap.size wo w')
          (repeat (first | assumption | with_reducible refine Below.drew ?_ | with_reducible refine bt (a := wo) ?_ br))
          (first | (go_at_call 14; refine (HS1.out _ (by assumption)).mono ?_; rintro e WA ⟨rfl, br⟩) | (go_at_call 15; refine (HS2.out _ (by assumption)).mono ?_; rintro e WA ⟨rfl, br⟩))
        all_goals
          go_wp2_with fail
          go_meet
          exact ⟨rfl, by (repeat (first | assumption | with_reducible refine Below.drew ?_ | with_reducible refine bt (a := wo) ?_ br))⟩
      case rest =>
        obtain ⟨rfl, hbx⟩ := hcut
        rename World => wx
        have HBX := Lib.hid (HBR.out.trans (hbx.mono HBR.out.size))
        clear hbx r0 r1 r2 r3 r4 r5 HS1 HS2
        go_wp2
        go_roundw
        case rel => exact ⟨i + 1, by go_num, by omega, HBX.out⟩
        case measure => simp [intOf]; omega
    · obtain rfl : i = l3.length := by omega
      have hiI : ¬ (l3.length : Int) < (l3.length : Int) := by omega
      have HA1 : Hid (∀ w', Below wo.heap.size wo w' → Calls Try.prog 16 #[hdVal h A1 c1 B1 c2 C1 c3, .slice A3 l3.length c4] w' fun e w'' => e = .returned (.bool (accB h.mc l3)) ∧ Below w'.heap.size w' w'') :=
        Lib.hid fun w' hw' => accepts_any (HVo.out.on hw') hO (by decide) ((SlP.keep HTo.out fun p hp => hw'.cell hp).more fun b hb => Nat.lt_of_lt_of_le hb hw'.size) hcp3
      have HA2 : Hid (∀ w', Below wo.heap.size wo w' → Calls Try.prog 17 #[hdVal h A1 c1 B1 c2 C1 c3, .slice A3 l3.length c4] w' fun e w'' => e = .returned (.bool (accB h.mc l3)) ∧ Below w'.heap.size w' w'') :=
        Lib.hid fun w' hw' => raccepts_any (HVo.out.on hw') hO (by decide) ((SlP.keep HTo.out fun p hp => hw'.cell hp).more fun b hb => Nat.lt_of_lt_of_le hb hw'.size) hcp3
      have HA3 : Hid (∀ w', Below wo.heap.size wo w' → Calls Try.prog 16 #[hdVal h A1 c1 B1 c2 C1 c3, .slice A5 (l4.length + 1) c6] w' fun e w'' => e = .returned (.bool false) ∧ Below w'.heap.size w' w'') :=
        Lib.hid fun w' hw' => by
          have h9 := accepts_any (l := l4 ++ [Tr.mk ((3 : Nat) : Int) []]) (kc := c6) (HVo.out.on hw') hO (by decide) (by rw [hll4]; exact (SlP.keep HTo5.out fun p hp => hw'.cell hp).more fun b hb => Nat.lt_of_lt_of_le hb hw'.size) (by rw [hll4]; exact hcp5)
          rw [hodd, hll4] at h9
          exact h9
      have HS1 : Hid (∀ w', Below wo.heap.size wo w' → Calls Try.prog 14 #[hdVal h A1 c1 B1 c2 C1 c3, .agg #[.int .i64 (-1), .slice none 0 0]] w' fun e w'' => e = .returned (.int .i64 (-1)) ∧ Below w'.heap.size w' w'') :=
        Lib.hid fun w' hw' => by
          have h9 := HST.out.1 (.mk (-1) []) w' A1 B1 C1 c1 c2 c3 none 0 (HVo.out.on hw') (SlP.nil _ _ _ _) ⟨Nat.le_refl _, by decide⟩
          rw [stT_out (M := h.mc) (t := .mk (-1) []) (fun h8 => by have h7 : (0 : Int) ≤ -1 := h8.1; omega)] at h9
          exact h9
      have HW1 : Hid (∀ w', Below wo.heap.size wo w' → Calls Try.prog 18 #[.slice A3 l3.length c4] w' fun e w'' => e = .returned (.int .i64 (wtTs l3 : Int)) ∧ Below w'.heap.size w' w'') :=
        Lib.hid fun w' hw' => weight_any l3 w' A3 c4 ((SlP.keep HTo.out fun p hp => hw'.cell hp).more fun b hb => Nat.lt_of_lt_of_le hb hw'.size) (by omega)
      have HW2 : Hid (∀ w', Below wo.heap.size wo w' → Calls Try.prog 19 #[.slice A3 l3.length c4] w' fun e w'' => e = .returned (.int .i64 (wtTs l3 : Int)) ∧ Below w'.heap.size w' w'') :=
        Lib.hid fun w' hw' => rweight_any l3 w' A3 c4 ((SlP.keep HTo.out fun p hp => hw'.cell hp).more fun b hb => Nat.lt_of_lt_of_le hb hw'.size) (by omega)
      generalize accB h.mc l3 = b at *
      generalize (wtTs l3 : Int) = m at *
      obtain ⟨IsRow, hI1, hI3, HAA⟩ : ∃ R : Option Addr → Nat → Nat → Bool → Prop, R A3 l3.length c4 b ∧ R A5 (l4.length + 1) c6 false ∧ Hid (∀ w', Below wo.heap.size wo w' → ∀ Aq nq cq bq, R Aq nq cq bq → Calls Try.prog 16 #[hdVal h A1 c1 B1 c2 C1 c3, .slice Aq nq cq] w' fun e w'' => e = .returned (.bool bq) ∧ Below w'.heap.size w' w'') :=
        ⟨fun Aq nq cq bq => ∀ w', Below wo.heap.size wo w' → Calls Try.prog 16 #[hdVal h A1 c1 B1 c2 C1 c3, .slice Aq nq cq] w' fun e w'' => e = .returned (.bool bq) ∧ Below w'.heap.size w' w'', HA1.out, HA3.out, Lib.hid fun w' hw' _ _ _ _ h => h w' hw'⟩
      have hb1 : (b == b) = true := by simp
      have hm1 : (m == m) = true := by simp
      have hb0 : Below wo.heap.size wo wo := Below.refl _ _
      clear HA1 HA3 HST HVo HTo HTo5 HBR HV5 HT35 HT5 HX5 hO hlab3 hlab4 HTI HTB hlen3 hlen4 hw3 hw4 hcp3 hcp5 hodd hll4 HB3 HB2
      go_upto_region 9 with fail
      go_region_held3 (fun w' => Below wo.heap.size wo w')
        (repeat (first | assumption | with_reducible refine Below.drew ?_ | with_reducible refine bt (a := wo) ?_ br))
        (first
          | (go_at_call 16; refine (HAA.out _ (by assumption) _ _ _ _ (by assumption)).mono ?_; rintro e WA ⟨rfl, br⟩)
          | (go_at_call 17; refine (HA2.out _ (by assumption)).mono ?_; rintro e WA ⟨rfl, br⟩)
          | (go_at_call 14; refine (HS1.out _ (by assumption)).mono ?_; rintro e WA ⟨rfl, br⟩)
          | (go_at_call 18; refine (HW1.out _ (by assumption)).mono ?_; rintro e WA ⟨rfl, br⟩)
          | (go_at_call 19; refine (HW2.out _ (by assumption)).mono ?_; rintro e WA ⟨rfl, br⟩)
          | (go_at_call 12; refine (lives_any _).mono ?_; rintro e WA ⟨rfl, br⟩))
      all_goals
        rename_i hH
        have HBE := Lib.hid (HBo.out.trans (hH.mono HBo.out.size))
        clear hH
        go_wp2
        go_ret
        exact ⟨rfl, HBE.out⟩
end Go.Proofs.Ytbipdnnalhdoaaa
