/- strainerref07: Tree. -/
import Derived.Test.YtlfkipilgdeemaaKA
namespace Go.Proofs.Ytlfkipilgdeemaa
open Go.RowKit Go.Maps Go.WideMaps
attribute [local go_sem ↓] Go.wp_at_zero Go.wp_at_succ

/-- a block that holds slices alone -/
def SlB (w : World) (g : Nat) : Prop := ∀ o v, w.cell? ⟨g, o, none⟩ = some v → ∃ A n c, v = .slice A n c
theorem SlB.of {w : World} {g : Nat} {A A' : Option Addr} {n c n' c' : Nat} {T : TypeId} (h : w.heap[g]? = some (.cells #[.slice A n c, .slice A' n' c'] T (0, 0))) : SlB w g := by
  intro o v hv
  rw [Lib.cell_of_heap h] at hv
  match o, hv with
  | 0, hv => simp at hv; exact ⟨A, n, c, hv.symm⟩
  | 1, hv => simp at hv; exact ⟨A', n', c', hv.symm⟩
  | o + 2, hv => simp at hv
theorem SlB.at_ {w : World} {g : Nat} (h : SlB w g) {a : Addr} {v : Value} (hb : a.block = g) (hv : w.cell? a = some v) : ∃ A n c, v = .slice A n c := by
  obtain ⟨ab, ao, asp⟩ := a
  simp only at hb
  subst hb
  refine h ao v ?_
  unfold World.cell? at hv ⊢
  cases hh : w.heap[ab]? with
  | none => rw [hh] at hv; cases hv
  | some x =>
    rw [hh] at hv
    cases x <;> simp at hv ⊢
    exact hv.2
theorem RdP.off {w : World} {S : Nat → Prop} {z n g : Nat} {A : Option Addr} {xs : List Value} (h : RdP w S z A n xs) (hg : SlB w g) (h0 : ∀ u, xs[0]? = some u → ∀ A n c, u ≠ .slice A n c) : RdP w (fun q => S q ∧ q ≠ g) z A n xs := by
  refine ⟨h.1, fun hn => ?_⟩
  obtain ⟨a, e, hb, hc⟩ := h.2 hn
  refine ⟨a, e, ⟨hb, fun hq => ?_⟩, hc⟩
  have hl : 0 < xs.length := List.length_pos_iff.2 hn
  have hu := List.getElem?_eq_getElem hl
  obtain ⟨A', n', c', hv⟩ := hg.at_ (a := a.add 0) (by rw [block_add]; exact hq) (hc 0 _ hu)
  exact h0 _ hu _ _ _ hv
theorem atr_first (ats : List Atr) : ∀ u, (atrCells ats)[0]? = some u → ∀ A n c, u ≠ .slice A n c := by
  intro u hu A n c
  cases ats with
  | nil => simp [atrCells] at hu
  | cons a l => simp [atrCells] at hu; subst hu; simp [sv]
section
variable {w : World} {S : Nat → Prop} {g : Nat}
theorem NsIsP.first {l : List Nd} {xs : List Value} (h : NsIsP w S l xs) : ∀ u, xs[0]? = some u → ∀ A n c, u ≠ .slice A n c := by
  intro u hu A n c
  cases l with
  | nil => simp only [NsIsP] at h; subst h; simp at hu
  | cons nd l =>
    simp only [NsIsP] at h
    obtain ⟨a, b, rfl, h1, _⟩ := h
    cases nd
    simp only [NIsP] at h1
    obtain ⟨A', n', c', A'', n'', c'', ys, rfl, _⟩ := h1
    simp at hu
    subst hu
    simp
mutual
theorem NIsP.off (hg : SlB w g) : ∀ {n : Nd} {cs : List Value}, NIsP w S n cs → NIsP w (fun q => S q ∧ q ≠ g) n cs
  | .mk _ _ ats _ kids, _, h => by
    simp only [NIsP] at h ⊢
    obtain ⟨A, n, c, A', n', c', xs, e, h1, h2, h3, h4, h5⟩ := h
    exact ⟨A, n, c, A', n', c', xs, e, h1, h2.off hg (atr_first ats), h3, h4.off hg h5.first, NsIsP.off hg h5⟩
theorem NsIsP.off (hg : SlB w g) : ∀ {l : List Nd} {cs : List Value}, NsIsP w S l cs → NsIsP w (fun q => S q ∧ q ≠ g) l cs
  | [], _, h => by simp only [NsIsP] at h ⊢; exact h
  | _ :: _, _, h => by
    simp only [NsIsP] at h ⊢
    obtain ⟨a, b, e, h1, h2⟩ := h
    exact ⟨a, b, e, NIsP.off hg h1, NsIsP.off hg h2⟩
end
theorem NodesP.off {A : Option Addr} {n : Nat} {l : List Nd} (h : NodesP w S A n l) (hg : SlB w g) : NodesP w (fun q => S q ∧ q ≠ g) A n l := by
  obtain ⟨xs, h1, h2⟩ := h
  exact ⟨xs, h1.off hg h2.first, NsIsP.off hg h2⟩
end
theorem ints_first (P : List Nat) : ∀ u, (intsOf P)[0]? = some u → ∀ A n c, u ≠ .slice A n c := by
  intro u hu A n c
  cases P with
  | nil => simp [intsOf] at hu
  | cons i P => simp [intsOf] at hu; subst hu; simp
/-- the state stays, where a block of slices is written -/
theorem RbIs.set {w : World} {b : RB} {A AP : Option Addr} {c cP g : Nat} (h : RbIs w w.heap.size b A AP c cP) (hg : SlB w g) (v0 v1 : Value) :
    RbIs ((w.setCell ⟨g, 0, none⟩ v0).setCell ⟨g, 1, none⟩ v1) ((w.setCell ⟨g, 0, none⟩ v0).setCell ⟨g, 1, none⟩ v1).heap.size b A AP c cP := by
  obtain ⟨h1, h2, h3, h4⟩ := h
  have hk : ∀ p : Addr, (p.block < w.heap.size ∧ p.block ≠ g) → ((w.setCell ⟨g, 0, none⟩ v0).setCell ⟨g, 1, none⟩ v1).cell? p = w.cell? p := fun p hp => World.cell?_of_block (by
    rw [heap_setCell_other (p := ⟨g, 1, none⟩) hp.2, heap_setCell_other (p := ⟨g, 0, none⟩) hp.2])
  have hs : ((w.setCell ⟨g, 0, none⟩ v0).setCell ⟨g, 1, none⟩ v1).heap.size = w.heap.size := by rw [size_set, size_set]
  rw [RbIs, hs]
  exact ⟨((NodesP.off h1 hg).keep hk).lt fun q hq => hq.1, h2, RdP.more ((RdP.off (S := fun q => q < w.heap.size) h3 hg (ints_first b.P)).keep hk) fun q hq => hq.1, h4⟩

set_option maxHeartbeats 2000000 in
set_option maxRecDepth 100000 in
theorem rTree_any {w : World} {A : Option Addr} {c : Nat} {l : List Tk} (hT : Toks w w.heap.size A l.length l) (hc : l.length ≤ c) (hn : l.length ≤ 40) (hok : ∀ t ∈ l, TkOk t) :
    Calls Try.prog 11 #[.slice A l.length c] w fun e w' => ∃ A' c', e = .returned (.slice A' (treeL l).length c') ∧ (treeL l).length ≤ c' ∧ Nodes w' w'.heap.size A' (treeL l).length (treeL l) ∧ Below w.heap.size w w' := by
  have h0 := heap_alloc_new w (.cells #[.slice none 0 0, .slice none 0 0] 60)
  have b0 : Below w.heap.size w (w.alloc (.cells #[.slice none 0 0, .slice none 0 0] 60)) := (Below.refl _ w).alloc (Nat.le_refl _) _
  have s0 : (w.alloc (.cells #[.slice none 0 0, .slice none 0 0] 60)).heap.size = w.heap.size + 1 := World.size_alloc _ _
  go_enter Try.func11, Try.ntmps11
  go_wp2
  go_loopw [4] (fun iv wr => ∃ (k : Nat) (A1 AP : Option Addr) (c1 cP : Nat), iv = .int .i64 k ∧ k ≤ l.length ∧ wr.heap[w.heap.size]? = some (.cells #[.slice A1 (rTree (l.take k)).L.length c1, .slice AP (rTree (l.take k)).P.length cP] 60 (0, 0)) ∧
      RbIs wr wr.heap.size (rTree (l.take k)) A1 AP c1 cP ∧ Below w.heap.size w wr ∧ w.heap.size < wr.heap.size) (fun iv _ => l.length - (intOf iv).toNat)
  case atStart => exact ⟨0, none, none, 0, 0, rfl, Nat.zero_le _, h0, ⟨Nodes.nil _ _ _, Nat.zero_le _, Rd.nil _ _ _ _, Nat.zero_le _⟩, b0, by omega⟩
  case round =>
    obtain ⟨k, A1, AP, c1, cP, rfl, hk, hbx, hRb, hw, hws⟩ := hrel
    clear h0 b0 s0
    have hx0 := Lib.cell_of_heap hbx 0
    have hx1 := Lib.cell_of_heap hbx 1
    simp only [List.getElem?_toArray, List.getElem?_cons_zero, List.getElem?_cons_succ] at hx0 hx1
    by_cases hlt : k < l.length
    · have hRok := rTree_ok l hok k hk
      obtain ⟨a, rfl, hta⟩ := hT.at_ hlt
      obtain ⟨ht0, ht1, ht2, ht3, A3, c3, ht4, ht5, ht6⟩ := hta.below hw
      have hokt := hok l[k] (List.getElem_mem _)
      have HNX := Lib.hid (show rTree (l.take (k + 1)) = rPutT (rTree (l.take k)) l[k] by rw [List.take_succ_eq_append_getElem hlt, rTree, List.foldl_append]; rfl)
      generalize l[k] = t at *
      generalize rTree (l.take k) = rb at *
      have hRd : RbIs wr.drew wr.drew.heap.size rb A1 AP c1 cP := hRb.below (Below.drew (Below.refl _ _))
      have hAd : Atrs wr.drew wr.drew.heap.size A3 t.attrs.length t.attrs := Rd.more (B := w.heap.size) (Rd.below (B := w.heap.size) ht6 (Below.drew (Below.refl _ wr))) (Nat.le_of_lt hws)
      have HC := Lib.hid (rPutT_any hRok (by omega) hokt hRd hAd ht5)
      have HBX := Lib.hid (fun W' (h : Below wr.drew.heap.size wr.drew W') => (h.block w.heap.size hws).trans (show wr.drew.heap[w.heap.size]? = _ from hbx))
      have HW := Lib.hid hw
      clear hta hbx hRb hRd hAd hRok ht6 hw
      go_wp2
      go_region_with (go_at_call 17; refine HC.out.mono ?_; rintro e W5 ⟨⟨A5, AP5, c5, cP5, rfl, hR5⟩, b5⟩; have kx := HBX.out W5 b5; have k0 := Lib.cell_of_heap kx 0; have k1 := Lib.cell_of_heap kx 1; have f0 := Lib.frozen_of_heap kx 0; have f1 := Lib.frozen_of_heap kx 1; simp only [List.getElem?_toArray, List.getElem?_cons_zero, List.getElem?_cons_succ] at k0 k1)
      all_goals
        have hs5 : wr.heap.size ≤ W5.heap.size := b5.size
        have HS5 := Lib.hid (hR5.set (SlB.of kx) (.slice A5 (rPutT rb t).L.length c5) (.slice AP5 (rPutT rb t).P.length cP5))
        have HR5 := Lib.hid (rb_stored kx (.slice A5 (rPutT rb t).L.length c5) (.slice AP5 (rPutT rb t).P.length cP5))
        have HB5 := Lib.hid (((HW.out.trans (((Below.drew (Below.refl _ wr)).trans b5).mono HW.out.size)).setCell (p := ⟨w.heap.size, 0, none⟩) (Nat.le_refl _) (.slice A5 (rPutT rb t).L.length c5)).setCell (p := ⟨w.heap.size, 1, none⟩) (Nat.le_refl _) (.slice AP5 (rPutT rb t).P.length cP5))
        clear hR5 kx b5
        go_wp2
        go_roundw
        case rel => exact ⟨k + 1, A5, AP5, c5, cP5, by go_num, by omega, by rw [HNX.out]; exact HR5.out, by rw [HNX.out]; exact HS5.out, HB5.out, by rw [size_set, size_set]; omega⟩
        case measure => simp [intOf]; omega
    · obtain rfl : k = l.length := by omega
      rw [List.take_length] at hx0 hRb
      have HT := Lib.hid (rTree_is l)
      rw [HT.out] at hx0
      obtain ⟨h1, h2, _⟩ := hRb
      rw [HT.out] at h1 h2
      have H1 := Lib.hid h1
      clear h1 hx1 hbx
      go_wp2
      go_ret
      exact ⟨A1, c1, rfl, h2, H1.out, hw⟩
end Go.Proofs.Ytlfkipilgdeemaa
