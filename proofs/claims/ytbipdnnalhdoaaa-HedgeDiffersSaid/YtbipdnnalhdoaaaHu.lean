/- Least, Costs: of one automaton. -/
import Derived.Test.YtbipdnnalhdoaaaHs
import Derived.Test.YtbipdnnalhdoaaaHt
import Derived.Test.YtbipdnnalhdoaaaHr
import Derived.Test.YtbipdnnalhdoaaaHv
namespace Go.Proofs.Ytbipdnnalhdoaaa
open Go.RowKit Go.Maps Go.WideMaps
attribute [local go_sem ↓] Go.wp_at_zero Go.wp_at_succ

theorem LeastRet.from {M : Mc} {w W w' : World} {e : Ending} (h : LeastRet M W e w') (hb : Below w.heap.size w W) : LeastRet M w e w' := by
  obtain ⟨h1, h2⟩ := h
  refine ⟨hb.trans (h1.mono hb.size), ?_⟩
  rcases h2 with ⟨A, c, l, e1, e2, e3, e4, e5, e6⟩ | h2
  · exact .inl ⟨A, c, l, e1, e2, e3.more fun b hb' => ⟨Nat.le_trans hb.size hb'.1, hb'.2⟩, e4, e5, e6⟩
  · exact .inr h2
theorem LeastRet.shape {M : Mc} {w w' : World} {e : Ending} (h : LeastRet M w e w') : ∃ A n c b, e = .returned (.tuple #[.slice A n c, .bool b]) := by
  rcases h.2 with ⟨A, c, l, e1, _⟩ | ⟨e1, _⟩
  · exact ⟨A, _, c, true, e1⟩
  · exact ⟨none, 0, 0, false, e1⟩

set_option maxHeartbeats 2000000 in
set_option maxRecDepth 100000 in
theorem Least_any {w : World} {h : Hd} {A B C : Option Addr} {c c1 c2 m : Nat} (H : HdV w (fun b => b < w.heap.size) h A c B c1 C c2) (hO : HdOk h m) (hm : m ≤ 400) :
    Calls Try.prog 20 #[hdVal h A c B c1 C c2] w (LeastRet h.mc w) := by
  have hB0 := (Below.refl _ w).alloc (Nat.le_refl _) (.cells #[.int .i64 h.K, .slice A h.labs.length c, .slice B h.root.nx.length c1, .slice C h.root.out.length c2] 28)
  have hx0 := heap_alloc_new w (.cells #[.int .i64 h.K, .slice A h.labs.length c, .slice B h.root.nx.length c1, .slice C h.root.out.length c2] 28)
  have H1 := H.on hB0
  go_enter Try.func20, Try.ntmps20
  go_upto_region 1 with fail
  generalize w.alloc (.cells #[.int .i64 h.K, .slice A h.labs.length c, .slice B h.root.nx.length c1, .slice C h.root.out.length c2] 28) = W1 at *
  have x0 := Lib.cell_of_heap hx0 0
  have x1 := Lib.cell_of_heap hx0 1
  have x2 := Lib.cell_of_heap hx0 2
  have x3 := Lib.cell_of_heap hx0 3
  simp only [List.getElem?_toArray, List.getElem?_cons_zero, List.getElem?_cons_succ] at x0 x1 x2 x3
  have HB := Lib.hid hB0
  have HV := Lib.hid H1
  have HX := Lib.hid hx0
  have hwl := (Array.getElem?_eq_some_iff.1 hx0).1
  clear hB0 hx0 H1 H
  have HS := Lib.hid (sound_any HV.out)
  go_wp2_with fail
  refine HS.out.mono ?_
  rintro e W2 ⟨b, rfl, hb, b2⟩
  obtain rfl : b = true := hb.2 hO.sound
  have hx2 := (b2.block _ hwl).trans HX.out
  replace x0 := Lib.cell_of_heap hx2 0
  replace x1 := Lib.cell_of_heap hx2 1
  replace x2 := Lib.cell_of_heap hx2 2
  replace x3 := Lib.cell_of_heap hx2 3
  simp only [List.getElem?_toArray, List.getElem?_cons_zero, List.getElem?_cons_succ] at x0 x1 x2 x3
  have HBW := Lib.hid (HB.out.trans (b2.mono HB.out.size))
  have HL := Lib.hid (least_any (mach_alone (HV.out.on b2) hO) (hO.mcOk hm) hO.out2)
  clear hb hx2 b2
  go_wp2_with fail
  refine HL.out.mono ?_
  intro e W3 hR
  have HR := Lib.hid (hR.from HBW.out)
  obtain ⟨A3, n3, c3, b3, rfl⟩ := hR.shape
  clear hR
  go_wp2
  go_ret2
  exact HR.out

/-- what Costs tells -/
def CostsRet (M : Mc) (K : Nat) (w : World) (e : Ending) (w' : World) : Prop := ∃ (A : Option Addr) (c : Nat) (cs : List Int), e = .returned (.slice A cs.length c) ∧ Cap cs.length c ∧ cs.length = K ∧ SlP w' (fun b => w.heap.size ≤ b ∧ b < w'.heap.size) 1 A cs.length (cs.map .i) ∧ CostsP M (fun v => cs.getD v (-1)) ∧ Below w.heap.size w w'
/-- the first i are told, the others are made -/
def costL (f : FS) (K i : Nat) : List Int := (List.range K).map fun v => if v < i then costF f v else 0
theorem costL_len (f : FS) (K i : Nat) : (costL f K i).length = K := by simp [costL]
theorem costL_set (f : FS) {K i : Nat} (hi : i < K) : (costL f K i).set i (costF f i) = costL f K (i + 1) := by
  apply List.ext_getElem?
  intro v
  rw [List.getElem?_set]
  unfold costL
  by_cases hv : v < K
  · by_cases e : i = v
    · subst e
      simp [hi]
    · simp only [e, if_false, List.getElem?_map, List.getElem?_range hv, Option.map_some]
      congr 1
      by_cases h2 : v < i
      · rw [if_pos h2, if_pos (by omega)]
      · rw [if_neg h2, if_neg (by omega)]
  · rw [if_neg (by omega), List.getElem?_eq_none (by simp; omega), List.getElem?_eq_none (by simp; omega)]
theorem costL_set' (f : FS) {K i : Nat} (x : Int) (hi : i < K) : ((costL f K i).set i x).set i (costF f i) = costL f K (i + 1) := by rw [List.set_set]; exact costL_set f hi
theorem made_zero (K : Nat) : (madeCells #[Value.int .i64 0] K).toList = ints (costL ⟨[], fun _ _ => none, [], [], fun _ => none⟩ K 0) := by
  apply List.ext_getElem?
  intro i
  by_cases hi : i < K
  · simp [madeCells, hi, Nat.mod_one, ints, costL]
  · simp [madeCells, hi, Nat.mod_one, ints, costL]
theorem costL_zero (f f' : FS) (K : Nat) : costL f K 0 = costL f' K 0 := by unfold costL; simp
theorem ints_set (l : List Int) (i : Nat) (x : Int) : (ints l).set i (.int .i64 x) = ints (l.set i x) := by unfold ints; rw [List.map_set]

set_option maxHeartbeats 4000000 in
set_option maxRecDepth 100000 in
theorem Costs_any {w : World} {h : Hd} {A B C : Option Addr} {c c1 c2 m : Nat} (H : HdV w (fun b => b < w.heap.size) h A c B c1 C c2) (hO : HdOk h m) (hm : m ≤ 400) (hL : 0 < h.labs.length) :
    Calls Try.prog 22 #[hdVal h A c B c1 C c2] w (CostsRet h.mc h.K.toNat w) := by
  have hB0 := (Below.refl _ w).alloc (Nat.le_refl _) (.cells #[.int .i64 h.K, .slice A h.labs.length c, .slice B h.root.nx.length c1, .slice C h.root.out.length c2] 28)
  have hx0 := heap_alloc_new w (.cells #[.int .i64 h.K, .slice A h.labs.length c, .slice B h.root.nx.length c1, .slice C h.root.out.length c2] 28)
  have H1 := H.on hB0
  have hLb := hO.fewL
  go_enter Try.func22, Try.ntmps22
  go_upto_region 1 with fail
  generalize w.alloc (.cells #[.int .i64 h.K, .slice A h.labs.length c, .slice B h.root.nx.length c1, .slice C h.root.out.length c2] 28) = W1 at *
  have x0 := Lib.cell_of_heap hx0 0
  have x1 := Lib.cell_of_heap hx0 1
  have x2 := Lib.cell_of_heap hx0 2
  have x3 := Lib.cell_of_heap hx0 3
  simp only [List.getElem?_toArray, List.getElem?_cons_zero, List.getElem?_cons_succ] at x0 x1 x2 x3
  have HB := Lib.hid hB0
  have HV := Lib.hid H1
  have HX := Lib.hid hx0
  have hwl := (Array.getElem?_eq_some_iff.1 hx0).1
  clear hB0 hx0 H1 H
  have HS := Lib.hid (sound_any HV.out)
  go_wp2_with fail
  refine HS.out.mono ?_
  rintro e W2 ⟨b, rfl, hb, b2⟩
  obtain rfl : b = true := hb.2 hO.sound
  have hx2 := (b2.block _ hwl).trans HX.out
  replace x0 := Lib.cell_of_heap hx2 0
  replace x1 := Lib.cell_of_heap hx2 1
  replace x2 := Lib.cell_of_heap hx2 2
  replace x3 := Lib.cell_of_heap hx2 3
  simp only [List.getElem?_toArray, List.getElem?_cons_zero, List.getElem?_cons_succ] at x0 x1 x2 x3
  have HBW := Lib.hid (HB.out.trans (b2.mono HB.out.size))
  have HX2 := Lib.hid hx2
  have hwl2 := (Array.getElem?_eq_some_iff.1 hx2).1
  have HM := Lib.hid (mach_alone (HV.out.on b2) hO)
  have HBG := Lib.hid (begin_any (w := W2) (N := h.labs.length) 65 (hdVal h A c B c1 C c2) h.mc hL (by omega))
  clear hb hx2 b2
  go_wp2_with fail
  refine HBG.out.mono ?_
  rintro e W3 ⟨fb, mm, mf, own, f, rfl, hF, hI, hH, hq, hnd, b3⟩
  have hs3 := b3.size
  have HRUN := Lib.hid (run_any hF HM.out (hO.mcOk hm) (Nat.le_succ _) b3 (Nat.le_refl _) hI hH (by omega) (fun s k h => absurd h (hnd _ s k)) hO.out2)
  have HLT := Lib.hid (fun q r (hq : own q = some r) => (hF.lt q r hq).1)
  have HB3 := Lib.hid b3
  clear hF hI hH hq hnd b3
  go_wp2_with fail
  refine HRUN.out.mono ?_
  rintro e W4 ⟨own4, f4, hF4, hS4, hR4⟩
  have HB4 := Lib.hid (hS4.below HB3.out hs3 fun q r hq => HLT.out q r hq)
  have hfe : ∃ x y z, e = .returned (.tuple #[.agg #[.int .i64 x, .int .i64 y, .int .i64 z], .bool true]) ∨ True := ⟨0, 0, 0, .inr trivial⟩
  clear hfe
  have hR4' : ∃ cur, e = .returned (.tuple #[.agg #[.int .i64 0, .int .i64 0, .int .i64 0, .int .i64 0, .int .i64 0], .bool false]) ∧ FInv h.mc h.labs.length h.labs.length cur f4 (fun _ _ _ => False) (fun _ _ => False) ∧ f4.q = [] := by
    rcases hR4 with ⟨s, fx, P, X, _, hI, hmr, _, hk, hsn, _⟩ | ⟨cur, h1, h2, h3, _⟩
    · rw [← hmr] at hk
      have h9 := (hI.lt (hO.mcOk hm) (Nat.le_succ _) hk).1
      rw [hsn] at h9
      exact absurd h9 (Nat.lt_irrefl _)
    · exact ⟨cur, h1, h2, h3⟩
  obtain ⟨cur, rfl, hI4, hq4⟩ := hR4'
  have hCP := hI4.costs (hO.mcOk hm) hq4
  have hout : ∀ v, h.K.toNat ≤ v → costF f4 v = -1 := fun v hv => by
    unfold costF
    cases hf : f4.fnd v with
    | none => rfl
    | some src =>
      obtain ⟨g1, g2, k2, g3, _⟩ := hI4.fn v src hf
      have := (hO.mcOk hm).out _ _ g1 (hI4.lt (hO.mcOk hm) (Nat.le_succ _) g3).2.1
      rw [g2] at this
      have h9 : v < h.K.toNat := this
      omega
  have hx4 := (HB4.out.block _ hwl2).trans HX2.out
  replace x0 := Lib.cell_of_heap hx4 0
  simp only [List.getElem?_toArray, List.getElem?_cons_zero, List.getElem?_cons_succ] at x0
  have HCP := Lib.hid (And.intro hCP hout)
  have HF4 := Lib.hid hF4
  clear hR4 hI4 hq4 hCP hout hS4 hF4 hx4
  obtain ⟨K, hK⟩ : ∃ K : Nat, h.K = (K : Int) := ⟨h.K.toNat, (Int.toNat_of_nonneg (by have := hO.K1; omega)).symm⟩
  have hKb : K ≤ 400 := by have := hO.fewK; omega
  have hKt : h.K.toNat = K := by rw [hK]; exact Int.toNat_natCast K
  rw [hK] at x0
  have HKT := Lib.hid (And.intro hK hKt)
  clear hK hKt
  obtain ⟨ind, hind, hzd, hsd, hbd⟩ := info_parts infoIn
  go_upto_region 6 with (at_make; go_must (refine wpList_make_full _ rfl _ _ 24 rfl w.heap.size 3 ind _ 1 Try.underlying24 hind hzd hsd .i64 .i64 _ _ K rfl rfl rfl rfl (by rw [hbd]; omega) (by unfold maxLen; omega) (by have := HBW.out.size; have := HB4.out.size; omega) ?_))
  intro W5 hown hg5
  rw [made_zero, costL_zero _ f4] at hown
  have hs4 := HB4.out.size
  have hs2 := HBW.out.size
  have hb5 := (Below.refl _ W4).grown hg5 (Nat.le_refl _) (fun q hq => by cases hq)
  have HB5 := Lib.hid hb5
  have HO5 := Lib.hid hown
  clear hown hg5 hb5
  obtain ⟨g, hg⟩ : ∃ g, g = W4.heap.size := ⟨_, rfl⟩
  have HG := Lib.hid hg
  rw [← hg] at HO5 ⊢
  clear hg
  go_wp2
  go_loopw [25] (fun iv wr => ∃ i : Nat, iv = .int .i64 i ∧ i ≤ K ∧ wr.ownsRow w.heap.size 3 1 (.slice (some ⟨g, 0, none⟩) K K) K (ints (costL f4 K i)) ∧ Below W4.heap.size W4 wr) (fun iv _ => K - (intOf iv).toNat)
  case atStart => exact ⟨0, rfl, Nat.zero_le _, HO5.out, HB5.out⟩
  case round =>
    obtain ⟨i, rfl, hi, hO1, hB1⟩ := hrel
    by_cases hlt : i < K
    · obtain ⟨cur1, o1, o2, o3, o4, o5, o6⟩ := own_open hO1
      have y0 := (Lib.cell_of_heap o1 i).trans (o6 i _ (ints_at (l := costL f4 K i) (by rw [costL_len]; exact hlt)))
      have fy0 := Lib.frozen_of_heap o1 i
      have hiI : (i : Int) < (K : Int) := by omega
      have hi0 : (0 : Int) ≤ (i : Int) := by omega
      have hB2 := hB1.setCell (p := ⟨g, i, none⟩) (by rw [HG.out]; exact Nat.le_refl _) (.int .i64 (-1))
      have hO2 := own_setz hO1 (i := i) (.int .i64 (-1))
      rw [ints_set] at hO2
      have hF2 := HF4.out.below hB2 (Nat.le_refl _)
      obtain ⟨A8, c8, AM8, cM8, AT8, cT8, MV8, d1, _⟩ := hF2.blk
      obtain ⟨n8, hm8⟩ := hF2.fns
      have hlk := hm8.look intK Try.underlying83 (zSr _) (keyIn (show i ≤ 1000000000000 by omega)) true
      rw [fnF_at] at hlk
      obtain ⟨z0, z1, z2, ok, hlk', hok⟩ : ∃ (z0 z1 z2 : Int) (ok : Bool), (Instr.lookup 83 (.map (some mf)) (.int .i64 (i : Int)) true).run Try.prog (wr.setCell ⟨g, i, none⟩ (.int .i64 (-1))) = .ok (.tuple #[.agg #[.int .i64 z0, .int .i64 z1, .int .i64 z2], .bool ok]) (wr.setCell ⟨g, i, none⟩ (.int .i64 (-1))) ∧
          ((ok = true ∧ costF f4 i = z2) ∨ (ok = false ∧ costF f4 i = -1)) := by
        cases hc : f4.fnd i with
        | none =>
          rw [hc] at hlk
          exact ⟨0, 0, 0, false, hlk, .inr ⟨rfl, by unfold costF; rw [hc]⟩⟩
        | some src =>
          rw [hc] at hlk
          exact ⟨_, _, _, true, hlk, .inl ⟨rfl, by unfold costF; rw [hc]⟩⟩
      have c5 := Lib.cell_of_heap d1 5
      simp only [List.getElem?_toArray, List.getElem?_cons_zero, List.getElem?_cons_succ] at c5
      have hal := hB2.alloc (by have := hB2.size; omega) (.cells #[.int .i64 z0, .int .i64 z1, .int .i64 z2] 76)
      have hO3 := hO2.alloc (.cells #[.int .i64 z0, .int .i64 z1, .int .i64 z2] 76)
      have hxn := heap_alloc_new (wr.setCell ⟨g, i, none⟩ (.int .i64 (-1))) (.cells #[.int .i64 z0, .int .i64 z1, .int .i64 z2] 76)
      have HOK := Lib.hid hok
      have HAL := Lib.hid hal
      have HO3 := Lib.hid hO3
      have hsz : (wr.setCell ⟨g, i, none⟩ (.int .i64 (-1))).heap.size = wr.heap.size := size_set
      clear o1 o2 o3 o4 o5 o6 hO1 hO2 hO3 hB2 hF2 hm8 hlk hok hal d1
      go_upto_region 10 with fail
      generalize wr.setCell ⟨g, i, none⟩ (.int .i64 (-1)) = W6 at *
      clear y0 fy0
      go_upto_region 11 with fail
      generalize W6.alloc (.cells #[.int .i64 z0, .int .i64 z1, .int .i64 z2] 76) = W7 at *
      rw [hsz] at hxn
      have y2 := Lib.cell_of_heap hxn 2
      simp only [List.getElem?_toArray, List.getElem?_cons_zero, List.getElem?_cons_succ] at y2
      have hclen := costL_len f4 K i
      obtain ⟨cur2, o1, o2, o3, o4, o5, o6⟩ := own_open HO3.out
      have y0 := (Lib.cell_of_heap o1 i).trans (o6 i _ (ints_at (l := (costL f4 K i).set i (-1)) (by rw [List.length_set, costL_len]; exact hlt)))
      have fy0 := Lib.frozen_of_heap o1 i
      clear hlk' c5 hxn o1 o2 o3 o4 o5 o6 hclen
      cases ok with
      | true =>
        have hz : costF f4 i = z2 := by
          rcases HOK.out with h | h
          · exact h.2
          · cases h.1
        have hO4 := own_setz HO3.out (i := i) (.int .i64 z2)
        rw [ints_set, ← hz, costL_set' f4 _ hlt] at hO4
        rw [hz] at hO4
        have HO4 := Lib.hid hO4
        have HAL2 := Lib.hid (HAL.out.setCell (p := ⟨g, i, none⟩) (by rw [HG.out]; exact Nat.le_refl _) (.int .i64 z2))
        clear hz hO4
        go_wp2
        go_roundw
        case rel => exact ⟨i + 1, by go_num, by omega, HO4.out, HAL2.out⟩
        case measure => simp [intOf]; omega
      | false =>
        have hz : costF f4 i = -1 := by
          rcases HOK.out with h | h
          · cases h.1
          · exact h.2
        have hO4 := HO3.out
        rw [← hz, costL_set f4 hlt] at hO4
        have HO4 := Lib.hid hO4
        clear hz hO4
        go_wp2
        go_roundw
        case rel => exact ⟨i + 1, by go_num, by omega, HO4.out, HAL.out⟩
        case measure => simp [intOf]; omega
    · obtain rfl : i = K := by omega
      have hlen := costL_len f4 i i
      have hgl := (hO1.lt g rfl).2
      have HRET := Lib.hid (show CostsRet h.mc h.K.toNat w (.returned (.slice (some ⟨g, 0, none⟩) i i)) wr from
        ⟨some ⟨g, 0, none⟩, i, costL f4 i i, by rw [hlen], by rw [hlen]; exact ⟨Nat.le_refl _, by omega⟩, by rw [hlen, HKT.out.2], by
          rw [hlen]
          exact ⟨_, RdP.of_own hO1, CsIsP.ints _ _ _⟩, by
          have he : (fun v => (costL f4 i i).getD v (-1)) = costF f4 := by
            funext v
            unfold costL
            by_cases hv : v < i
            · simp [List.getD, hv]
            · rw [List.getD, List.getElem?_eq_none (by simp; omega), HCP.out.2 v (by rw [HKT.out.2]; omega)]
              rfl
          rw [he]
          exact HCP.out.1, (HBW.out.trans (HB4.out.mono hs2)).trans (hB1.mono (by omega))⟩)
      clear hO1 hlen
      go_wp2
      go_ret
      exact HRET.out
end Go.Proofs.Ytbipdnnalhdoaaa
