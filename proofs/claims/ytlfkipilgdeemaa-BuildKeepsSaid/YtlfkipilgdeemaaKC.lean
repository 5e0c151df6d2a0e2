/- BuildKeeps: the law walked. -/
import Derived.Test.YtlfkipilgdeemaaKB
import Derived.Test.YtlfkipilgdeemaaKl
namespace Go.Proofs.Ytlfkipilgdeemaa
open Go.RowKit Go.Maps Go.WideMaps
attribute [local go_sem ↓] Go.wp_at_zero Go.wp_at_succ

theorem TsIs.take {w : World} {S : Nat → Prop} : ∀ {l : List Tk} {xs : List Value} (_ : TsIs w S l xs) (k : Nat), TsIs w S (l.take k) (xs.take (k * 4))
  | [], xs, h, k => by have h : xs = [] := h; subst h; simp [TsIs]
  | t :: l, xs, h, 0 => by simp [TsIs]
  | t :: l, xs, h, k + 1 => by
    obtain ⟨a, b, rfl, h1, h2⟩ := h
    have h4 := h1.four
    rw [show (k + 1) * 4 = a.length + k * 4 by omega, List.take_length_add_append, List.take_succ_cons]
    exact ⟨a, _, rfl, h1, TsIs.take h2 k⟩
theorem Toks.take {w : World} {B n : Nat} {A : Option Addr} {l : List Tk} (h : Toks w B A n l) {k : Nat} (hk : k ≤ n) : Toks w B A k (l.take k) := by
  obtain ⟨xs, h1, h2⟩ := h
  exact ⟨_, Rd.take (B := B) h1 hk, TsIs.take h2 k⟩

/-- what was told is spoiled, and nothing else -/
structure Spoil (B : Nat) (W : World) (D : Nat → Prop) (R : Nat) (arr : Array Value) (wk : World) : Prop where
  bel : Below B W wk
  row : ∃ a', wk.heap[R]? = some (.cells a' 33 (0, 0)) ∧ a'.size = arr.size ∧ ∀ i, a'[i * 5 + 2]? = arr[i * 5 + 2]?
  att : ∀ q, AtB W D q → ∃ x', wk.heap[q]? = some (.cells x' 35 (0, 0)) ∧ ∀ x, W.heap[q]? = some (.cells x 35 (0, 0)) → x'.size = x.size
theorem Spoil.start {B : Nat} {W : World} {D : Nat → Prop} {R : Nat} {arr : Array Value} (h : W.heap[R]? = some (.cells arr 33 (0, 0))) : Spoil B W D R arr W := by
  refine ⟨Below.refl _ _, ⟨arr, h, rfl, fun _ => rfl⟩, fun q hq => ?_⟩
  obtain ⟨x, hx⟩ := hq.2
  refine ⟨x, hx, fun y hy => ?_⟩
  rw [hx] at hy
  injection hy with hy
  injection hy with hy
  rw [hy]
theorem Spoil.setRow {B : Nat} {W wk : World} {D : Nat → Prop} {R o : Nat} {arr : Array Value} (h : Spoil B W D R arr wk) (hR : B ≤ R) (ho : ∀ i, o ≠ i * 5 + 2) (v : Value) : Spoil B W D R arr (wk.setCell ⟨R, o, none⟩ v) := by
  obtain ⟨h1, ⟨a', h2, h3, h4⟩, h5⟩ := h
  refine ⟨h1.setCell (p := ⟨R, o, none⟩) hR v, ⟨_, heap_setCell_same wk R o a' _ v h2, by simp [h3], fun i => ?_⟩, fun q hq => ?_⟩
  · rw [Array.getElem?_setIfInBounds, if_neg (ho i)]
    exact h4 i
  · obtain ⟨x', h6, h7⟩ := h5 q hq
    have hne : q ≠ R := by
      rintro rfl
      rw [h2] at h6
      injection h6 with h6
      injection h6 with _ h6
      exact absurd h6 (by decide)
    exact ⟨x', (heap_setCell_other (p := ⟨R, o, none⟩) hne).trans h6, h7⟩
theorem Spoil.setAtt {B : Nat} {W wk : World} {D : Nat → Prop} {R q o : Nat} {arr : Array Value} (h : Spoil B W D R arr wk) (hq : AtB W D q) (hB : B ≤ q) (v : Value) : Spoil B W D R arr (wk.setCell ⟨q, o, none⟩ v) := by
  obtain ⟨h1, ⟨a', h2, h3, h4⟩, h5⟩ := h
  have hne : R ≠ q := by
    rintro rfl
    obtain ⟨x', h6, _⟩ := h5 R hq
    rw [h2] at h6
    injection h6 with h6
    injection h6 with _ h6
    exact absurd h6 (by decide)
  refine ⟨h1.setCell (p := ⟨q, o, none⟩) hB v, ⟨a', (heap_setCell_other (p := ⟨q, o, none⟩) hne).trans h2, h3, h4⟩, fun q' hq' => ?_⟩
  obtain ⟨x', h6, h7⟩ := h5 q' hq'
  by_cases e : q' = q
  · subst e
    exact ⟨_, heap_setCell_same wk q' o x' _ v h6, fun x hx => by rw [← h7 x hx]; simp⟩
  · exact ⟨x', (heap_setCell_other (p := ⟨q, o, none⟩) e).trans h6, h7⟩
/-- the attribute's value can be written -/
theorem Spoil.atr {B : Nat} {W wk : World} {D : Nat → Prop} {R n j : Nat} {arr : Array Value} {A : Option Addr} {l : List Atr} (h : Spoil B W D R arr wk) (hA : RdP W (AtB W D) 2 A n (atrCells l)) (hj : j < n) :
    ∃ a v, A = some a ∧ AtB W D (a.add (j * 2)).block ∧ wk.cell? ⟨(a.add (j * 2)).block, (a.add (j * 2)).off + 1, none⟩ = some v ∧ wk.frozen? ⟨(a.add (j * 2)).block, (a.add (j * 2)).off + 1, none⟩ = false := by
  have hl := hA.1
  rw [atrCells_length] at hl
  have hjl : j < l.length := by omega
  obtain ⟨a, rfl, hb, hc⟩ := hA.2 (by intro e; have := atrCells_length l; rw [e] at this; simp at this; omega)
  obtain ⟨_, e2⟩ := atrCells_at hjl
  have hcell := hc _ _ e2
  rw [← add_add, add_pos _ 1 (by omega)] at hcell
  have hbl : AtB W D (a.add (j * 2)).block := by rw [block_add]; exact hb
  obtain ⟨x', h6, h7⟩ := h.att _ hbl
  obtain ⟨x, hx⟩ := hbl.2
  have hs := h7 x hx
  have hx1 := Lib.cell_of_heap hx ((a.add (j * 2)).off + 1)
  rw [hcell] at hx1
  have hlt := (Array.getElem?_eq_some_iff.1 hx1.symm).1
  refine ⟨a, x'[(a.add (j * 2)).off + 1]'(by omega), rfl, hbl, ?_, Lib.frozen_of_heap h6 _⟩
  rw [Lib.cell_of_heap h6]
  exact Array.getElem?_eq_getElem (by omega)

set_option maxHeartbeats 4000000 in
set_option maxRecDepth 100000 in
theorem BuildKeeps_calls {W : World} {A : Option Addr} {c : Nat} {l : List Tk} (hT : Toks W W.heap.size A l.length l) (hc : l.length ≤ c) (hk : ∀ t ∈ l, KindOk t.kind) :
    Calls Try.prog 3 #[.slice A l.length c] W fun e W' => e = .returned (.bool true) ∧ Below W.heap.size W W' := by
  have hok := cut7_ok hk
  have hlen := cut7_length l
  go_enter Try.func3, Try.ntmps3
  go_wp2_with fail
  refine (Cut7_any hT hc).mono ?_
  rintro e W1 ⟨A1, c1, rfl, h1, hP, b1⟩
  have hT1 : Toks W1 W1.heap.size A1 (cut7 l).length (cut7 l) := hP.lt fun q hq => hq.2
  generalize cut7 l = l7 at *
  clear hT hc hk hP
  go_upto_if 12 with fail
  go_cut [0, 12, 13, 14] (fun s _ _ _ wx => ∃ l5 : List Tk, s = .slice A1 l5.length c1 ∧ Toks W1 W1.heap.size A1 l5.length l5 ∧ l5.length ≤ c1 ∧ l5.length ≤ 20 ∧ (∀ t ∈ l5, TkOk t) ∧ wx = W1)
  case first =>
    by_cases h20 : l7.length ≤ 20
    · go_wp2
      go_meet
      exact ⟨l7, rfl, hT1, h1, h20, hok, rfl⟩
    · have h20' : 20 < l7.length := by omega
      have hT2 := hT1.take (k := 20) (by omega)
      have hl2 : (l7.take 20).length = 20 := by rw [List.length_take]; omega
      have hc1 : 20 ≤ c1 := by omega
      go_wp2
      go_meet
      exact ⟨l7.take 20, by rw [hl2], by rw [hl2]; exact hT2, by rw [hl2]; exact hc1, by omega, fun t ht => hok t (List.mem_of_mem_take ht), rfl⟩
  case rest =>
    obtain ⟨l5, rfl, hT5, hc5, hl5, hok5, rfl⟩ := hcut
    rename World => W1
    clear hT1 h1 hok hlen
    have HT5 := Lib.hid hT5
    clear hT5
    go_wp2_with fail
    refine (New_any W1).mono ?_
    rintro e W2 ⟨rfl, b2, own, m1⟩
    have i2 : BI W2 W1.heap.size (W1.heap.size + 1) 0 ⟨[], []⟩ := ⟨own, _, _, _, _, m1, ZR.start⟩
    have hs2 := b2.size
    clear m1
    go_wp2_with fail
    go_loopw [4] (fun iv wr => ∃ k : Nat, iv = .int .i64 k ∧ k ≤ l5.length ∧ BI wr W1.heap.size (W1.heap.size + 1) (3 * k) (putsZ ⟨[], []⟩ (l5.take k)) ∧ Below W1.heap.size W1 wr) (fun iv _ => l5.length - (intOf iv).toNat)
    case atStart => exact ⟨0, rfl, Nat.zero_le _, i2, b2⟩
    case round =>
      obtain ⟨k, rfl, hk, hB, hw⟩ := hrel
      clear i2 b2 hs2
      have hsw := hw.size
      by_cases hlt : k < l5.length
      · obtain ⟨a, rfl, hta⟩ := HT5.out.at_ hlt
        have hta2 := hta.below hw
        obtain ⟨ht0, ht1, ht2, ht3, A2, c2, ht4, ht5, ht6⟩ := hta2
        obtain ⟨ok1, ok2, ok3, ok4⟩ := hok5 l5[k] (List.getElem_mem _)
        have HNX := Lib.hid (show putsZ ⟨[], []⟩ (l5.take (k + 1)) = putZ (putsZ ⟨[], []⟩ (l5.take k)) l5[k] by rw [List.take_succ_eq_append_getElem hlt, putsZ, List.foldl_append]; rfl)
        clear hta
        generalize l5[k] = t at *
        have HB2 := Lib.hid hB
        have HW2 := Lib.hid hw
        have HA2 := Lib.hid (show Rd wr W1.heap.size 2 A2 t.attrs.length (atrCells t.attrs) from ht6)
        have HWT := Lib.hid (putsZ_wt (l5.take (k + 1)) ⟨[], []⟩)
        have HWG := Lib.hid (And.intro (putsZ_wg (l5.take (k + 1)) ⟨[], []⟩) (tksWt_le (l5.take (k + 1)) fun t ht => hok5 t (List.mem_of_mem_take ht)))
        clear hB hw ht6
        go_wp2_with fail
        refine (Put_any HB2.out (by omega) t A2 c2 ok1 ok2 ok3 ok4 HA2.out).mono ?_
        rintro e W3 ⟨rfl, b4, i4⟩
        clear ht1 ht2 ht3 ht4
        have hwt : wtL (putZ (putsZ ⟨[], []⟩ (l5.take k)) t).tree ≤ 1000000 := by
          have := HWT.out
          rw [HNX.out] at this
          have h0 : wtL (Zp.tree ⟨[], []⟩) = 0 := rfl
          have hl := List.length_take_le (k + 1) l5
          omega
        have hwg : wgL (putZ (putsZ ⟨[], []⟩ (l5.take k)) t).tree ≤ 1000000 := by
          obtain ⟨h8, h9⟩ := HWG.out
          rw [HNX.out] at h8
          have h0 : wgL (Zp.tree ⟨[], []⟩) = 0 := rfl
          have hl := List.length_take_le (k + 1) l5
          have hl2 : 1001 * (l5.take (k + 1)).length ≤ 1001 * 20 := by
            apply Nat.mul_le_mul_left
            rw [List.length_take]
            omega
          omega
        obtain ⟨z, hz⟩ : ∃ z, z = putZ (putsZ ⟨[], []⟩ (l5.take k)) t := ⟨_, rfl⟩
        rw [← hz] at i4 hwt hwg HNX
        clear hz
        have HB3 := Lib.hid (HW2.out.trans b4)
        have I4 := Lib.hid i4
        clear b4
        go_wp2_with fail
        refine (Nodes_ty I4.out (by omega) hwt).mono ?_
        rintro e W4 ⟨A4, c4, D, rfl, h4, hn4, b5, hty, hD⟩
        obtain ⟨R, arr, rfl, hDR, hR, hsz, hrow⟩ := hty
        have hRl := hD R hDR
        have hsp0 := Spoil.start (B := W3.heap.size) (D := D) hR
        have HROW := Lib.hid hrow
        have HD := Lib.hid hD
        have HSZ := Lib.hid hsz
        have B5 := Lib.hid b5
        have hR3 := hRl.1
        clear hn4 hR hsz hrow hD hRl b5 i4
        go_wp2_with fail
        obtain ⟨wo, rfl⟩ : ∃ wo : World, wo = wr := ⟨_, rfl⟩
        go_loopw [6] (fun iv wk => ∃ i : Nat, iv = .int .i64 i ∧ i ≤ z.tree.length ∧ Spoil W3.heap.size W4 D R arr wk) (fun iv _ => z.tree.length - (intOf iv).toNat)
        case atStart => exact ⟨0, rfl, Nat.zero_le _, hsp0⟩
        case round =>
          obtain ⟨i, rfl, hi, hsp⟩ := hrel
          by_cases hil : i < z.tree.length
          · obtain ⟨A6, n6, c6, hr6, hnc6, hat6⟩ := HROW.out i hil
            have hn6 : n6 ≤ 1000000 := by
              have h8 := wgL_at hil
              have h9 := hr6
              have h10 := hat6.1
              rw [atrCells_length] at h10
              omega
            have hil2 : z.tree.length ≤ 1000000 := by have := wtLen z.tree; omega
            have hsp1 := hsp.setRow hR3 (o := i * 5 + 3) (by omega) (.string ⟨#[115, 112, 111, 105, 108, 101, 100]⟩)
            have hsp2 := hsp1.setRow hR3 (o := i * 5 + 4) (by omega) (.slice none 0 0)
            obtain ⟨a', q1, q2, q3⟩ := hsp.row
            have hlt3 : i * 5 + 4 < a'.size := by rw [q2, HSZ.out]; omega
            have g3 : wr.cell? ⟨R, i * 5 + 3, none⟩ = some (a'[i * 5 + 3]'(by omega)) := by rw [Lib.cell_of_heap q1]; exact Array.getElem?_eq_getElem (by omega)
            have f3 : wr.frozen? ⟨R, i * 5 + 3, none⟩ = false := Lib.frozen_of_heap q1 _
            obtain ⟨a'', q4, q5, q6⟩ := hsp1.row
            have g4 : (wr.setCell ⟨R, i * 5 + 3, none⟩ (.string ⟨#[115, 112, 111, 105, 108, 101, 100]⟩)).cell? ⟨R, i * 5 + 4, none⟩ = some (a''[i * 5 + 4]'(by omega)) := by rw [Lib.cell_of_heap q4]; exact Array.getElem?_eq_getElem (by omega)
            have f4 : (wr.setCell ⟨R, i * 5 + 3, none⟩ (.string ⟨#[115, 112, 111, 105, 108, 101, 100]⟩)).frozen? ⟨R, i * 5 + 4, none⟩ = false := Lib.frozen_of_heap q4 _
            generalize a'[i * 5 + 3]'(by omega) = v3 at g3
            generalize a''[i * 5 + 4]'(by omega) = v4 at g4
            have hiI : (i : Int) < (z.tree.length : Int) := by omega
            have hi0 : (0 : Int) ≤ (i : Int) := by omega
            have HSP2 := Lib.hid hsp2
            have HR6 := Lib.hid hr6
            have HAT6 := Lib.hid hat6
            clear hsp hsp1 hsp2 q1 q2 q3 q4 q5 q6 hlt3 hr6 hat6
            go_wp2_with fail
            go_loopw [7] (fun jv wx => ∃ j : Nat, jv = .int .i64 j ∧ j ≤ n6 ∧ Spoil W3.heap.size W4 D R arr wx) (fun jv _ => n6 - (intOf jv).toNat)
            case atStart => exact ⟨0, rfl, Nat.zero_le _, HSP2.out⟩
            case round =>
              obtain ⟨j, rfl, hj, hsp⟩ := hrel
              obtain ⟨a', q1, q2, q3⟩ := hsp.row
              have g2 : wr.cell? ⟨R, i * 5 + 2, none⟩ = some (.slice A6 n6 c6) := by rw [Lib.cell_of_heap q1, q3]; exact HR6.out
              clear q1 q2 q3 g3 f3 g4 f4
              by_cases hjl : j < n6
              · obtain ⟨b, v, rfl, hbD, g5, f5⟩ := hsp.atr HAT6.out hjl
                have hsp3 := Lib.hid (hsp.setAtt (o := (b.add (j * 2)).off + 1) hbD (HD.out _ hbD.1).1 (.string ⟨#[115, 112, 111, 105, 108, 101, 100]⟩))
                have hjI : (j : Int) < (n6 : Int) := by omega
                have hj0 : (0 : Int) ≤ (j : Int) := by omega
                clear hsp hbD
                go_wp2
                go_roundw
                case rel => exact ⟨j + 1, by go_num, by omega, hsp3.out⟩
                case measure => simp [intOf]; omega
              · go_wp2
                go_roundw
                case rel => exact ⟨i + 1, by go_num, by omega, hsp⟩
                case measure => simp [intOf]; omega
          · have HS := Lib.hid hsp
            have I5 := Lib.hid (I4.out.below (B5.out.trans hsp.bel) (Nat.le_refl _))
            have HB6 := Lib.hid (HB3.out.trans ((B5.out.trans hsp.bel).mono HB3.out.size))
            clear hsp
            go_wp2
            go_roundw
            case rel => exact ⟨k + 1, by go_num, by omega, by rw [HNX.out]; exact I5.out, HB6.out⟩
            case measure => simp [intOf]; omega
      · obtain rfl : k = l5.length := by omega
        rw [List.take_length] at hB
        have hwt := putsZ_wt l5 ⟨[], []⟩
        have hwt0 : wtL (Zp.tree ⟨[], []⟩) = 0 := rfl
        have hwg : wgL (treeL l5) ≤ 1000000 := by
          have h8 := weighs_law l5
          have h9 := tksWt_le l5 hok5
          omega
        have hwg2 := Lib.hid hwg
        have HOK := Lib.hid hok5
        have B1r := Lib.hid (b1.trans (hw.mono b1.size))
        have HWr := Lib.hid hw
        clear hwg hlt
        go_wp2_with fail
        refine (Nodes_any hB (by omega) (by omega)).mono ?_
        rintro e W2 ⟨A', c', D, rfl, h2, h3, h4, h5⟩
        have hN : Nodes W2 W2.heap.size A' (treeL l5).length (treeL l5) := h3.lt fun q hq => (h5 q hq).2.1
        have h2' : (treeL l5).length ≤ c' := h2
        have BW2 := Lib.hid (B1r.out.trans (h4.mono B1r.out.size))
        have HT2 := Lib.hid (ToksP.more ((HT5.out.below HWr.out).below (h4.mono HWr.out.size)) fun q (hq : q < W1.heap.size) => (show q < W2.heap.size by have := HWr.out.size; have := h4.size; omega))
        clear h3 h4 h5 hwt hwt0 hB h2
        have hTL : (putsZ ⟨[], []⟩ l5).tree = treeL l5 := rfl
        rw [hTL]
        clear hTL
        go_wp2_with fail
        refine (rTree_any HT2.out hc5 (by omega) HOK.out).mono ?_
        rintro e W3 ⟨A3, c3, rfl, h6, h7, h8⟩
        have hN3 := hN.on h8
        have BW3 := Lib.hid (BW2.out.trans (h8.mono BW2.out.size))
        have HS := Lib.hid (Same_any (treeL l5) W3 A' A3 c' c3 hN3 h7 h2' h6 hwg2.out)
        clear hN h8 hN3 h7
        go_wp2_with fail
        refine HS.out.mono ?_
        rintro e W4 ⟨rfl, b4⟩
        have BW4 := Lib.hid (BW3.out.trans (b4.mono BW3.out.size))
        clear b4
        go_wp2_with fail
        refine (lives_any _).mono ?_
        rintro e W5 ⟨rfl, b5⟩
        have BW5 := Lib.hid (BW4.out.trans (b5.mono BW4.out.size))
        clear b5
        go_wp2
        go_ret
        exact ⟨rfl, BW5.out⟩
end Go.Proofs.Ytlfkipilgdeemaa
