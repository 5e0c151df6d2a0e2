/- The package build: Open. strainerlaw07: lives. -/
import Derived.Test.YtlfkipilgdeemaaKq
import Derived.Test.YtlfkipilgdeemaaKc
namespace Go.Proofs.Ytlfkipilgdeemaa
open Go.RowKit Go.Maps Go.WideMaps
attribute [local go_sem ↓] Go.wp_at_zero Go.wp_at_succ

theorem infoSt : (Try.prog.info? 9).map (fun i => (i.zero, i.size, i.bytes)) = some (some (.string ⟨#[]⟩), 1, 16) := by kernel_rfl
theorem rowSt : Row Try.prog 62 9 1 16 := by
  obtain ⟨i, hi, hz, h1, h2⟩ := info_parts infoSt
  exact ⟨Try.underlying62, ⟨i, _, hi, hz, h1, h2, rfl⟩, by decide⟩

set_option maxHeartbeats 2000000 in
set_option maxRecDepth 100000 in
/-- Open, of one open element -/
theorem Open_one {w : World} {base bb N : Nat} {k : List Nd} {h : Hd} {last : List Nd} (hB : BI w base bb N ⟨[(k, h)], last⟩) :
    Calls Try.prog 18 #[.pointer (some ⟨bb, 0, none⟩)] w fun e w' => ∃ A c, e = .returned (.slice (some ⟨A, 0, none⟩) 1 c) ∧ w'.cell? ⟨A, 0, none⟩ = some (.string ⟨h.1.toArray⟩) ∧ Below w.heap.size w w' := by
  obtain ⟨own, mm, g, outs, opens, hM, hZ⟩ := hB
  have hl := hZ.1.len
  obtain ⟨b, rfl⟩ : ∃ b, opens = [b] := by
    match opens, hl with
    | [b], _ => exact ⟨b, rfl⟩
  have h0 := hZ.1
  simp only [Sp] at h0
  obtain ⟨⟨ids, hg⟩, _⟩ := h0
  obtain ⟨PA, n, cp, c1, hn, hnc, hcm, c2, _, _, _⟩ := hM.pop
  simp only [List.length_nil] at hn
  subst hn
  obtain ⟨q1, ⟨A1, n1, c1', TV, KV, hr0, _⟩, _⟩ := hM.recs b _ hg
  have hbl := (hM.lt b _ q1).2
  have hbb := (hM.lt bb _ hM.me).2
  have hPA : PA < w.heap.size := World.block_lt_of_cell? w _ c2
  have c3 := Lib.cell_of_heap hr0 1
  simp only [List.getElem?_toArray, List.getElem?_cons_zero, List.getElem?_cons_succ, sv] at c3
  clear hM hZ hr0 hg hl
  go_enter Try.func18, Try.ntmps18
  go_wp2
  go_loopw [3, 11] (fun v iv wr => ∃ (j : Nat) (A : Option Addr) (c : Nat), v = .slice A j c ∧ iv = .int .i64 j ∧ j ≤ 1 ∧ wr.ownsRow w.heap.size 9 1 (.slice A j c) j (if j = 0 then [] else [.string ⟨h.1.toArray⟩]) ∧ Below w.heap.size w wr) (fun _ iv _ => 1 - (intOf iv).toNat)
  case atStart => exact ⟨0, none, 0, rfl, rfl, Nat.zero_le _, World.ownsRow_nil _ _ _ _, Below.refl _ _⟩
  case round =>
    obtain ⟨j, A, c, rfl, rfl, hj, hown, hw⟩ := hrel
    by_cases hlt : j = 0
    · subst hlt
      have d1 := (hw.cell (p := ⟨PA, 0, none⟩) hPA).trans c2
      have d2 := (hw.cell (p := ⟨b, 1, none⟩) hbl).trans c3
      rw [if_pos rfl] at hown
      have hws := hw.size
      go_wp2_with (at_builtin; go_must (refine wpList_push_at rfl _ _ _ rfl w.heap.size rowSt A 0 c _ rfl hown [.string ⟨h.1.toArray⟩] _ rfl rfl (by simp [Value.oneCell']) (by unfold maxLen; omega) (by omega) hws ?_))
      intro A' c' w2 hc' ho2 hg2 hat2
      have B2 := hw.grown hg2 hws (own_ge hown)
      clear hg2 hat2 hown
      go_wp2
      go_roundw
      case rel => exact ⟨1, A', c', rfl, by go_num, Nat.le_refl _, ho2, B2⟩
      case measure => simp [intOf]
    · obtain rfl : j = 1 := by omega
      rw [if_neg (by omega)] at hown
      obtain ⟨qg, qc, hv, _, _⟩ := hown.form (by omega)
      injection hv with hv1 _ _
      subst hv1
      have hc := hown.cellAt 0 (by omega)
      clear hown hlt
      go_wp2
      go_ret
      exact ⟨qg, ⟨_, rfl⟩, hc, hw⟩

theorem lives_tree : putsZ ⟨[], []⟩ [⟨1, [112], [], []⟩, ⟨3, [], [], [120]⟩, ⟨1, [100, 105, 118], [], []⟩] = ⟨[([.mk 1 [112] [] [] [.mk 2 [] [] [120] []]], ([100, 105, 118], []))], []⟩ := by rfl

set_option maxHeartbeats 2000000 in
set_option maxRecDepth 100000 in
/-- strainerlaw07.lives -/
theorem lives_any (w : World) : Calls Try.prog 12 #[] w fun e w' => e = .returned (.bool true) ∧ Below w.heap.size w w' := by
  have hk1 : KindOk 1 := by decide
  have hk3 : KindOk 3 := by decide
  have hA : ∀ (w' : World) B, Rd w' B 2 none 0 (atrCells []) := fun w' B => Rd.nil _ _ _ _
  have HT := Lib.hid lives_tree
  go_enter Try.func12, Try.ntmps12
  go_wp2_with fail
  refine (New_any w).mono ?_
  rintro e W1 ⟨rfl, b1, own, m1⟩
  have i1 : BI W1 w.heap.size (w.heap.size + 1) 0 ⟨[], []⟩ := ⟨own, _, _, _, _, m1, ZR.start⟩
  clear m1
  go_wp2_with fail
  refine (Put_any i1 (by omega) ⟨1, [112], [], []⟩ none 0 hk1 (by decide) (by decide) (by decide) (hA _ _)).mono ?_
  rintro e W2 ⟨rfl, b2, i2⟩
  go_wp2_with fail
  refine (Put_any i2 (by omega) ⟨3, [], [], [120]⟩ none 0 hk3 (by decide) (by decide) (by decide) (hA _ _)).mono ?_
  rintro e W3 ⟨rfl, b3, i3⟩
  go_wp2_with fail
  refine (Put_any i3 (by omega) ⟨1, [100, 105, 118], [], []⟩ none 0 hk1 (by decide) (by decide) (by decide) (hA _ _)).mono ?_
  rintro e W4 ⟨rfl, b4, i4⟩
  have i5 : BI W4 w.heap.size (w.heap.size + 1) 9 ⟨[([.mk 1 [112] [] [] [.mk 2 [] [] [120] []]], ([100, 105, 118], []))], []⟩ := HT.out ▸ i4
  have B4 := ((b1.trans b2).trans b3).trans b4
  have hs4 := B4.size
  clear i1 i2 i3 i4 b1 b2 b3 b4
  go_wp2_with fail
  refine (Nodes_any i5 (by omega) (by decide)).mono ?_
  rintro e W5 ⟨A5, c5, D, rfl, h5, hn5, b5, hD5⟩
  have i6 := i5.below b5 (Nat.le_refl _)
  have hN : Nodes W5 W5.heap.size A5 2 [elemN ([112], []) [.mk 2 [] [] [120] []], elemN ([100, 105, 118], []) []] := hn5.lt fun q hq => (hD5 q hq).2.1
  clear hn5 i5
  go_wp2_with fail
  refine (Open_one i6).mono ?_
  rintro e W6 ⟨A6, c6, rfl, hc6, b6⟩
  have B6 := (B4.trans (b5.mono hs4)).trans (b6.mono (Nat.le_trans hs4 b5.size))
  have hN6 := hN.below b6
  obtain ⟨a, x1, x2, x3, x4, x5, x6, rfl, _, _, g1, _, _, g2, _, _, _, hx⟩ := hN6.at_ (k := 0) (by omega) (by simp)
  obtain ⟨a', y1, y2, y3, y4, y5, y6, he, _, _, g3, _⟩ := hN6.at_ (k := 1) (by omega) (by simp)
  injection he with he
  subst he
  have hxl := hx.len
  simp only [List.getElem_cons_zero, elemN, Nd.kids, List.length_cons, List.length_nil] at hxl
  subst hxl
  rw [add_pos _ _ (by omega)] at g1 g2 g3
  have f1 : W6.cell? ⟨a.block, a.off + 1, none⟩ = some (.string ⟨#[112]⟩) := g1
  have f2 : W6.cell? ⟨a.block, a.off + 4, none⟩ = some (.slice x4 1 x6) := g2
  have f3 : W6.cell? ⟨a.block, a.off + 5 + 1, none⟩ = some (.string ⟨#[100, 105, 118]⟩) := g3
  have f4 : W6.cell? ⟨A6, 0, none⟩ = some (.string ⟨#[100, 105, 118]⟩) := hc6
  have h52 : 2 ≤ c5 := h5
  clear g1 g2 g3 hc6 hN6 hN hx h5 i6
  go_wp2
  go_ret
  exact ⟨rfl, B6⟩
end Go.Proofs.Ytlfkipilgdeemaa
