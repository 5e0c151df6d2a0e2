/- The package build: chars. -/
import Derived.Test.YtlfkipilgdeemaaK7
import Derived.Deep.RegionHeld3
import Derived.Deep.DrawnRows
import Derived.Deep.RegionLaw
namespace Go.Proofs.Ytlfkipilgdeemaa
open Go.RowKit Go.Maps Go.WideMaps
attribute [local go_sem ↓] Go.wp_at_zero Go.wp_at_succ

/-- '[]byte(s)' -/
theorem conv_bytes (W : World) {base : Nat} (hb : base ≤ W.heap.size) (l : List UInt8) (hl : l.length ≤ 1000000) : ∃ cap W2, (convert 9 55 (.string ⟨l.toArray⟩)).run Try.prog W = .ok (.slice (some ⟨W.heap.size, 0, none⟩) l.length cap) W2 ∧
    ByR W2 base (.slice (some ⟨W.heap.size, 0, none⟩) l.length cap) l ∧ Below W.heap.size W W2 ∧ W2.heap.size = W.heap.size + 1 := by
  refine ⟨_, _, run_bytes_of_string (P := Try.prog) W 9 55 5 ⟨l.toArray⟩ Try.underlying9 Try.underlying55 Try.underlying5, ByR.made W hb l (by unfold maxLen; omega) _ rfl, (Below.refl _ W).drew.alloc (Nat.le_refl _) _, ?_⟩
  rw [World.size_alloc]
  rfl
theorem beq_nil_false {l : List UInt8} (h : l ≠ []) : (l == []) = false := by cases l <;> simp_all

set_option maxHeartbeats 2000000 in
set_option maxRecDepth 100000 in
/-- chars -/
theorem chars_any {w : World} {base bb N : Nat} {z : Zp} (h : BI w base bb N z) (hN : N ≤ 900) (t : Tk) (A : Option Addr) (c : Nat) (ht : t.text.length ≤ 1000) :
    Calls Try.prog 24 #[.pointer (some ⟨bb, 0, none⟩), tkV t A c] w fun e w' => e = .returned (.tuple #[]) ∧ Below base w w' ∧ BI w' base bb (N + 3) (charsZ z t.text) := by
  obtain ⟨own, mm, g, outs, opens, h1, h2⟩ := h
  have hbase := (h1.lt bb _ h1.me)
  have hbs : base ≤ w.heap.size := by omega
  unfold tkV
  generalize t.kind = kd
  generalize t.name = nm
  generalize t.attrs.length = na
  generalize t.text = tx at *
  have hnew := heap_alloc_new w (.cells #[.int .i64 kd, .string ⟨nm.toArray⟩, .slice A na c, .string ⟨tx.toArray⟩] 29)
  have b0 : Below w.heap.size w (w.alloc (.cells #[.int .i64 kd, .string ⟨nm.toArray⟩, .slice A na c, .string ⟨tx.toArray⟩] 29)) := (Below.refl _ w).alloc (Nat.le_refl _) _
  have hM := h1.below b0 (Nat.le_refl _)
  by_cases htx : tx = []
  · subst htx
    go_enter Try.func24, Try.ntmps24
    go_wp2
    refine bodyPost_ret (results_none rfl _ _ _) rfl ?_
    exact ⟨rfl, b0.mono hbs, own, mm, g, outs, opens, hM.more (by omega), by simpa [charsZ] using h2.more b0.size⟩
  · have HZ := Lib.hid (show charsZ z tx = ⟨z.fr, addText z.last tx⟩ by simp only [charsZ, htx, if_false])
    have hq := beq_nil_false htx
    have s0 : (w.alloc (.cells #[.int .i64 kd, .string ⟨nm.toArray⟩, .slice A na c, .string ⟨tx.toArray⟩] 29)).heap.size = w.heap.size + 1 := World.size_alloc _ _
    go_enter Try.func24, Try.ntmps24
    go_wp2_with fail
    refine (place_any hM (by omega)).mono ?_
    rintro e W1 ⟨rfl, b1⟩
    have hM1 := hM.below b1 (Nat.le_refl _)
    have hB1 := b0.trans (b1.mono (by omega))
    have hs1 := b1.size
    rw [s0] at hs1
    have hh1 := (b1.block w.heap.size (by omega)).trans hnew
    have ht3 := Lib.cell_of_heap hh1 3
    simp only [List.getElem?_toArray, List.getElem?_cons_zero, List.getElem?_cons_succ] at ht3
    obtain ⟨V, k1, _, k3, _, k5, _, _, _, _⟩ := hM1.place (fun p bs e => (h2.head p bs e).2)
    obtain ⟨AV, cV, rfl, hcV⟩ := own_shape k3
    have HB1 := Lib.hid hB1
    have HM1 := Lib.hid hM1
    clear hM hM1 b0 b1 h1 hnew s0 htx hB1
    generalize plAddr bb opens = pa at *
    have hsep : ∀ (l : List Nd), l = [] ∨ ∃ l' k nm' ats tx' kids, l = l' ++ [.mk k nm' ats tx' kids] := by
      intro l
      rcases List.eq_nil_or_concat l with h | ⟨l', n, h⟩
      · exact .inl h
      · cases n
        exact .inr ⟨l', _, _, _, _, _, by rw [h, List.concat_eq_append]⟩
    obtain ⟨fr, last⟩ := z
    simp only at HZ HM1 h2
    by_cases hend : ∃ l' nm' ats' tx' kids', last = l' ++ [.mk 2 nm' ats' tx' kids']
    · obtain ⟨l', nm', ats', tx', kids', rfl⟩ := hend
      obtain ⟨cl, t', ids, e1, e2, e3⟩ := h2.lastIs
      obtain ⟨A0, n0, c0, TV0, KV0, hr0, _⟩ := (HM1.out.recs t' _ e2).cells
      have hkc := Lib.cell_of_heap hr0 0
      simp only [List.getElem?_toArray, List.getElem?_cons_zero] at hkc
      rw [e1] at k1 k3 k5
      simp only [List.length_append, List.length_cons, List.length_nil, Nat.zero_add] at k1 k3 k5
      obtain ⟨qg, qc, hv, _, _⟩ := k3.form (by omega)
      injection hv with hv1 _ _
      subst hv1
      have hcell := k3.cellAt cl.length (by omega)
      rw [ptrs_append, List.getElem?_append_right (by simp [ptrs]), show cl.length - (ptrs cl).length = 0 by simp [ptrs]] at hcell
      have hcell' : W1.cell? ⟨qg, cl.length, none⟩ = some (.pointer (some ⟨t', 0, none⟩)) := hcell
      obtain ⟨TV, g1, g2, g3, g4, g5, g6, g7, g8⟩ := HM1.out.grow e2 rfl
      simp only at g3 g7 g8
      have HADD := Lib.hid (show addText (l' ++ [Nd.mk 2 nm' ats' tx' kids']) tx = l' ++ [Nd.mk 2 nm' ats' (tx' ++ tx) kids'] by rw [addText_snoc, if_pos rfl])
      have HE3 := Lib.hid e3
      have HB := Lib.hid HB1.out
      have HTK := Lib.hid hh1
      generalize cl.length = ncl at *
      clear hcell hr0 e1 e2 e3 k3 hh1
      have htl : tx'.length + tx.length ≤ 1000000000 := by omega
      have htb : some w.heap.size ≠ TV.ownBlock := fun e => by
        have hp := HM1.out.lt
        have h9 := HTK.out
        rcases g3 with ⟨rfl, _⟩ | ⟨g', cap', cur', fz', rfl, _, hg', _⟩
        · simp [Value.ownBlock] at e
        · simp only [Value.ownBlock, Option.some.injEq] at e
          subst e
          rw [h9] at hg'
          cases hg'
      go_wp2
      go_region_law (refine step_byte_app (by rfl) _ _ (by rfl) (base := base) (by rfl) g3 tx (by rfl) htl (by simp; omega) ?_; intro A5 c5 w5 hby5 hg5 hat5; have gc5 := (grown_cell hg5 (a := ⟨t', 5, none⟩) g5 g4).1.trans g1; have gf5 := (grown_cell hg5 (a := ⟨t', 5, none⟩) g5 g4).2.trans g2)
      all_goals
        go_wp2
        refine bodyPost_ret (results_none rfl _ _ _) rfl ?_
        have hg6 : W1.grownBy w5 TV.ownBlock := ⟨hg5.os, hg5.tape, hg5.output, hg5.size, hg5.block⟩
        obtain ⟨own5, _, m5⟩ := g8 w5 _ tx ht hg6 hby5 hat5
        have B5 : Below base w w5 := (HB.out.mono hbs).trans ((Below.refl _ W1).grown hg6 (by omega) (fun q hq => (g3.lt q hq).1))
        have hz5 := HE3.out tx
        exact ⟨rfl, B5.setCell (p := ⟨t', 5, none⟩) g6 _, own5, mm, _, outs, opens, by rw [HZ.out]; exact m5.more (by omega), by rw [HZ.out, HADD.out]; exact hz5.more (by rw [size_set]; exact B5.size)⟩
    · have hadd : addText last tx = last ++ [.mk 2 [] [] tx []] := by
        rcases hsep last with rfl | ⟨l', k, nm', ats', tx', kids', rfl⟩
        · rfl
        · rw [addText_snoc, if_neg (fun e => hend ⟨l', nm', ats', tx', kids', by rw [e]⟩), List.append_assoc]
          rfl
      have HADD := Lib.hid hadd
      obtain ⟨cap, W2, hcv, hby, b2, s2⟩ := conv_bytes W1 (base := base) (by omega) tx (by omega)
      have b3 := b2.alloc (by omega) (.cells #[.int .i64 2, .string ⟨#[]⟩, .slice none 0 0, .string ⟨#[]⟩, .slice none 0 0, .slice (some ⟨W1.heap.size, 0, none⟩) tx.length cap, .slice none 0 0] 57)
      have hn3 := heap_alloc_new W2 (.cells #[.int .i64 2, .string ⟨#[]⟩, .slice none 0 0, .string ⟨#[]⟩, .slice none 0 0, .slice (some ⟨W1.heap.size, 0, none⟩) tx.length cap, .slice none 0 0] 57)
      rw [s2] at hn3
      have hM3 := (HM1.out.below b3 (Nat.le_refl _)).more (Nat.le_succ N)
      have hby3 : ByR (W2.alloc (.cells #[.int .i64 2, .string ⟨#[]⟩, .slice none 0 0, .string ⟨#[]⟩, .slice none 0 0, .slice (some ⟨W1.heap.size, 0, none⟩) tx.length cap, .slice none 0 0] 57)) base (.slice (some ⟨W1.heap.size, 0, none⟩) tx.length cap) tx :=
        hby.block fun q hq => Below.heap_alloc _ _ _ (hby.lt q hq).2
      obtain ⟨own', _, hM', _⟩ := hM3.new (b := W1.heap.size + 1) (k := 2) (nm := []) (ats := []) (tx := tx) (A := none) (n := 0) (c := 0) (TV := .slice (some ⟨W1.heap.size, 0, none⟩) tx.length cap) (e2 := 0) hn3 (by omega) (own_fresh HM1.out (by omega)) (World.ownsRow_nil _ _ _ _) (fun q hq => by simp [Value.ownBlock] at hq)
        hby3 (fun q hq => by
          simp only [Value.ownBlock, Option.some.injEq] at hq
          subst hq
          exact ⟨own_fresh HM1.out (Nat.le_refl _), by omega, by simp [Value.ownBlock]⟩) (by simp) (by omega) (by simp)
      have HM := Lib.hid hM'
      have HB3 := Lib.hid (HB1.out.trans (b3.mono (by omega)))
      have HZ2 := Lib.hid h2
      have hs2 : w.heap.size ≤ W1.heap.size + 1 := by omega
      clear hM3 hM' hn3 hby hby3 b2 b3 h2 hadd
      rcases hsep last with rfl | ⟨l', k, nm', ats', tx', kids', rfl⟩
      · have hids : plIds g outs opens = [] := by
          have := HZ2.out.2
          simp only [Trs] at this
          exact this.1
        rw [hids] at k1 k3
        simp only [List.length_nil] at k1
        go_wp2_with fail
        refine (add_new HM.out HZ2.out hs2 (by rw [World.size_alloc, s2]; omega) (by omega)).mono ?_
        rintro e W4 ⟨rfl, b4, _, own4, g4, outs4, m4, z4, _⟩
        go_wp2
        go_end0
        exact ⟨rfl, (HB3.out.mono hbs).trans b4, own4, mm, g4, outs4, opens, by rw [HZ.out]; exact m4.more (by omega), by rw [HZ.out, HADD.out]; exact z4⟩
      · have hk2 : ¬ k = 2 := fun e => hend ⟨l', nm', ats', tx', kids', by rw [e]⟩
        have hk2' : (k == 2) = false := beq_eq_false_iff_ne.2 hk2
        obtain ⟨cl, t', ids, e1, e2, _⟩ := HZ2.out.lastIs
        obtain ⟨A0, n0, c0, TV0, KV0, hr0, _⟩ := (HM1.out.recs t' _ e2).cells
        have hkc := Lib.cell_of_heap hr0 0
        simp only [List.getElem?_toArray, List.getElem?_cons_zero] at hkc
        rw [e1] at k1 k3 k5
        simp only [List.length_append, List.length_cons, List.length_nil, Nat.zero_add] at k1 k3 k5
        obtain ⟨qg, qc, hv, _, _⟩ := k3.form (by omega)
        injection hv with hv1 _ _
        subst hv1
        have hcell := k3.cellAt cl.length (by omega)
        rw [ptrs_append, List.getElem?_append_right (by simp [ptrs]), show cl.length - (ptrs cl).length = 0 by simp [ptrs]] at hcell
        have hcell' : W1.cell? ⟨qg, cl.length, none⟩ = some (.pointer (some ⟨t', 0, none⟩)) := hcell
        have HE1 := Lib.hid e1
        have HE2 := Lib.hid e2
        generalize cl.length = ncl at *
        clear hcell hr0 e1 e2 k3 hk2 hend
        go_wp2_with fail
        refine (add_new HM.out HZ2.out hs2 (by rw [World.size_alloc, s2]; omega) (by omega)).mono ?_
        rintro e W4 ⟨rfl, b4, _, own4, g4, outs4, m4, z4, _⟩
        go_wp2
        go_end0
        exact ⟨rfl, (HB3.out.mono hbs).trans b4, own4, mm, g4, outs4, opens, by rw [HZ.out]; exact m4.more (by omega), by rw [HZ.out, HADD.out]; exact z4⟩
end Go.Proofs.Ytlfkipilgdeemaa
