/- The package build: Nodes. -/
import Derived.Test.YtnkelhmjkmeilaaGreatDoorT36
section
namespace Go.Proofs.YtnkelhmjkmeilaaGreatDoor.K
open Go.RowKit Go.Maps Go.WideMaps
attribute [local go_sem ↓] Go.wp_at_zero Go.wp_at_succ
theorem infoJb : (Tryz.prog.info? 478).map (fun i => (i.zero, i.size, i.bytes)) = some (some (.agg #[.slice none 0 0, .pointer none]), 2, 32) := by kernel_rfl
theorem rowJb : Row Tryz.prog 479 478 2 32 := by
  obtain ⟨i, hi, hz, h1, h2⟩ := info_parts infoJb
  exact ⟨Tryz.underlying479, ⟨i, _, hi, hz, h1, h2, rfl⟩, by decide⟩
structure NInv (w wr : World) (g : Sto) (D : Nat → Prop) (S : List Jb) (d : Addr) (l : List Nd) : Prop where
  bel : Below w.heap.size w wr
  dom : ∀ q, D q → w.heap.size ≤ q ∧ ∃ arr e, wr.heap[q]? = some (.cells arr e (0, 0))
  ok : ∀ j ∈ S, JbOk w g j ∧ j.ids.length = j.trees.length ∧ D j.d.block ∧ j.d = ⟨j.d.block, j.d.off, none⟩ ∧ ∃ arr e, wr.heap[j.d.block]? = some (.cells arr e (0, 0)) ∧ e ≠ 78 ∧ j.d.off < arr.size
  nodup : (S.map (·.d)).Nodup
  wand : Wand wr D S d l
structure NIn (w wo wx : World) (g : Sto) (D E : Nat → Prop) (NJ : List Jb) (R : Nat) (j0 : Jb) (k : Nat) (arr : Array Value) : Prop where
  bel : Below w.heap.size w wx
  size : wo.heap.size + 1 < wx.heap.size
  old : ∀ q, D q → wx.heap[q]? = wo.heap[q]?
  jbx : wx.heap[wo.heap.size]? = some (.cells #[.slice j0.A j0.ids.length j0.c, .pointer (some j0.d)] 478 (0, 0))
  row : wx.heap[R]? = some (.cells arr 28 (0, 0))
  sz : arr.size = j0.trees.length * 5
  eR : E R
  eNew : ∀ q, E q → wo.heap.size < q ∧ ∃ arr e, wx.heap[q]? = some (.cells arr e (0, 0))
  at_ : ∀ i (hi : i < j0.trees.length), i < k → RowAt' wx (fun q => D q ∨ E q) arr R NJ i j0.trees[i]
  nj : ∀ j ∈ NJ, JbOk w g j ∧ j.ids.length = j.trees.length ∧ ∃ i, i < k ∧ j.d = ⟨R, i * 5 + 4, none⟩
  nodup : (NJ.map (·.d)).Nodup
  wt : jbWt NJ ≤ wtL (j0.trees.take k)
theorem one_set {w : World} {R o : Nat} {arr : Array Value} {e : TypeId} (h : w.heap[R]? = some (.cells arr e (0, 0))) (ho : o < arr.size) (v : Value) :
    ∃ W arr', W = w.setCell ⟨R, o, none⟩ v ∧ W.heap[R]? = some (.cells arr' e (0, 0)) ∧ arr'.size = arr.size ∧ (∀ i, i ≠ o → arr'[i]? = arr[i]?) ∧ arr'[o]? = some v ∧ (∀ q, q ≠ R → W.heap[q]? = w.heap[q]?) ∧ W.heap.size = w.heap.size ∧ (∀ B w0, Below B w0 w → B ≤ R → Below B w0 W) := by
  refine ⟨_, _, rfl, heap_setCell_same w R o arr e v h, by simp, fun i hi => ?_, by simp [ho], fun q hq => heap_setCell_other (p := ⟨R, o, none⟩) hq, size_set, fun B w0 hb hB => hb.setCell (p := ⟨R, o, none⟩) hB v⟩
  rw [Array.getElem?_setIfInBounds, if_neg (fun e => hi e.symm)]
theorem five_sets {w : World} {R o : Nat} {arr : Array Value} {e : TypeId} (h : w.heap[R]? = some (.cells arr e (0, 0))) (ho : o + 5 ≤ arr.size) (v0 v1 v2 v3 v4 : Value) :
    ∃ W arr', W = (((((w.setCell ⟨R, o, none⟩ v0).setCell ⟨R, o + 1, none⟩ v1).setCell ⟨R, o + 2, none⟩ v2).setCell ⟨R, o + 3, none⟩ v3).setCell ⟨R, o + 4, none⟩ v4) ∧ W.heap[R]? = some (.cells arr' e (0, 0)) ∧ arr'.size = arr.size ∧
      (∀ i, i < o ∨ o + 5 ≤ i → arr'[i]? = arr[i]?) ∧ arr'[o]? = some v0 ∧ arr'[o + 1]? = some v1 ∧ arr'[o + 2]? = some v2 ∧ arr'[o + 3]? = some v3 ∧ arr'[o + 4]? = some v4 ∧ (∀ q, q ≠ R → W.heap[q]? = w.heap[q]?) ∧ W.heap.size = w.heap.size ∧ (∀ B w0, Below B w0 w → B ≤ R → Below B w0 W) := by
  obtain ⟨W0, a0, e0, h0, s0, k0, t0, o0, z0, b0⟩ := one_set h (o := o) (by omega) v0
  obtain ⟨W1, a1, e1, h1, s1, k1, t1, o1, z1, b1⟩ := one_set h0 (o := o + 1) (by omega) v1
  obtain ⟨W2, a2, e2, h2, s2, k2, t2, o2, z2, b2⟩ := one_set h1 (o := o + 2) (by omega) v2
  obtain ⟨W3, a3, e3, h3, s3, k3, t3, o3, z3, b3⟩ := one_set h2 (o := o + 3) (by omega) v3
  obtain ⟨W4, a4, e4, h4, s4, k4, t4, o4, z4, b4⟩ := one_set h3 (o := o + 4) (by omega) v4
  refine ⟨W4, a4, by rw [e4, e3, e2, e1, e0], h4, by omega, fun i hi => ?_, ?_, ?_, ?_, ?_, t4, fun q hq => ?_, by omega, fun B w0 hb hB => b4 B w0 (b3 B w0 (b2 B w0 (b1 B w0 (b0 B w0 hb hB) hB) hB) hB) hB⟩
  · rw [k4 i (by omega), k3 i (by omega), k2 i (by omega), k1 i (by omega), k0 i (by omega)]
  · rw [k4 _ (by omega), k3 _ (by omega), k2 _ (by omega), k1 _ (by omega), t0]
  · rw [k4 _ (by omega), k3 _ (by omega), k2 _ (by omega), t1]
  · rw [k4 _ (by omega), k3 _ (by omega), t2]
  · rw [k4 _ (by omega), t3]
  · rw [o4 q hq, o3 q hq, o2 q hq, o1 q hq, o0 q hq]
theorem wtL_take {l : List Nd} {k : Nat} (hk : k < l.length) : wtL (l.take (k + 1)) = wtL (l.take k) + (2 + wtL l[k].kids) := by
  induction l generalizing k with
  | nil => simp at hk
  | cons n l ih =>
    match k with
    | 0 => have := wt1_eq n; simp only [Nat.zero_add, List.take_succ_cons, List.take_zero, wtL, List.getElem_cons_zero]; omega
    | k + 1 => have := ih (k := k) (by simpa using hk); simp only [List.take_succ_cons, wtL, List.getElem_cons_succ] at this ⊢; omega
theorem NIn.next {w wo wx W : World} {g : Sto} {D E : Nat → Prop} {NJ NJ' : List Jb} {R k n c5 base : Nat} {j0 : Jb} {arr arr' : Array Value} {A5 : Option Addr} {e2 : TypeId}
    (h : NIn w wo wx g D E NJ R j0 k arr) (hk : k < j0.trees.length) (hDR : ∀ q, D q → q ≠ R) (hR : R = wo.heap.size + 1) (hbel : Below w.heap.size w W) (hsz : wx.heap.size ≤ W.heap.size)
    (hkeep : ∀ q, (D q ∨ E q ∨ q = wo.heap.size) → q ≠ R → W.heap[q]? = wx.heap[q]?)
    (hrow : W.heap[R]? = some (.cells arr' 28 (0, 0))) (hsz' : arr'.size = arr.size) (hold : ∀ i, i < k → ∀ j, j < 5 → arr'[i * 5 + j]? = arr[i * 5 + j]?)
    (hats : W.ownsRow base e2 2 (.slice A5 n c5) n (atrCells j0.trees[k].attrs)) (he2 : e2 = 78) (hnew : ∀ q, (Value.slice A5 n c5).ownBlock = some q → wx.heap.size ≤ q) (hnc : n ≤ c5)
    (k0 : arr'[k * 5]? = some (.int .i64 j0.trees[k].kind)) (k1 : arr'[k * 5 + 1]? = some (sv j0.trees[k].name)) (k2 : arr'[k * 5 + 2]? = some (.slice A5 n c5)) (k3 : arr'[k * 5 + 3]? = some (sv j0.trees[k].text))
    (hNJ : (j0.trees[k].kids = [] ∧ NJ' = NJ ∧ arr'[k * 5 + 4]? = some (.slice none 0 0)) ∨ (j0.trees[k].kids ≠ [] ∧ ∃ j, NJ' = j :: NJ ∧ JbOk w g j ∧ j.ids.length = j.trees.length ∧ j.d = ⟨R, k * 5 + 4, none⟩ ∧ j.trees = j0.trees[k].kids)) :
    NIn w wo W g D (fun q => E q ∨ (Value.slice A5 n c5).ownBlock = some q) NJ' R j0 (k + 1) arr' := by
  subst he2
  obtain ⟨h1, h2, h3, h4, h5, h6, h7, h8, h9, h10, h11, h12⟩ := h
  have hER : ∀ q, AtB wx (fun q => D q ∨ E q) q → W.heap[q]? = wx.heap[q]? := by
    rintro q ⟨hq, x, hx⟩
    refine hkeep q (by rcases hq with hq | hq <;> simp [hq]) ?_
    rintro rfl
    rw [h5] at hx
    cases hx
  have hcase : NJ' = NJ ∨ ∃ j, NJ' = j :: NJ ∧ j.d = ⟨R, k * 5 + 4, none⟩ ∧ JbOk w g j ∧ j.ids.length = j.trees.length := by
    rcases hNJ with ⟨_, h, _⟩ | ⟨_, j, h, ha, hb, hc, _⟩
    · exact .inl h
    · exact .inr ⟨j, h, hc, ha, hb⟩
  have hsub : ∀ j ∈ NJ, j ∈ NJ' := by
    intro j hj
    rcases hcase with h | ⟨j', h, _⟩
    · rw [h]; exact hj
    · rw [h]; exact List.mem_cons_of_mem _ hj
  have hnew' : ∀ j ∈ NJ', j ∈ NJ ∨ j.d = ⟨R, k * 5 + 4, none⟩ := by
    intro j hj
    rcases hcase with h | ⟨j', h, hd, _⟩
    · rw [h] at hj; exact .inl hj
    · rw [h] at hj
      rcases List.mem_cons.1 hj with rfl | hj
      · exact .inr hd
      · exact .inl hj
  refine ⟨hbel, by omega, fun q hq => (hkeep q (.inl hq) (hDR q hq)).trans (h3 q hq), (hkeep _ (.inr (.inr rfl)) (by omega)).trans h4, hrow, by omega, .inl h7, ?_, ?_, ?_, ?_, ?_⟩
  · rintro q (hq | hq)
    · obtain ⟨h13, a, e, ha⟩ := h8 q hq
      refine ⟨h13, ?_⟩
      by_cases hqR : q = R
      · subst hqR; exact ⟨_, _, hrow⟩
      · exact ⟨a, e, (hkeep q (.inr (.inl hq)) hqR).trans ha⟩
    · refine ⟨by have := hnew q hq; omega, ?_⟩
      rcases hats.2 with ⟨hv, _⟩ | ⟨g', cap', cur, hv, _, hg', _⟩
      · rw [hv] at hq; simp [Value.ownBlock] at hq
      · rw [hv] at hq
        simp only [Value.ownBlock, Option.some.injEq] at hq
        subst hq
        exact ⟨_, _, hg'⟩
  · intro i hi hik
    rcases Nat.lt_or_ge i k with hlt | hge
    · refine (h9 i hi hlt).keep hER (fun q hq => by rcases hq with hq | hq; exact .inl hq; exact .inr (.inl hq)) (hold i hlt) hsub fun j hj => ?_
      rcases hnew' j hj with h13 | h13
      · exact .inl h13
      · refine .inr fun e => ?_
        rw [h13] at e
        injection e with _ e
        omega
    · obtain rfl : i = k := by omega
      refine ⟨A5, n, c5, k0, k1, k2, hnc, ?_, k3, ?_, ?_⟩
      · refine ⟨hats.1, fun hne => ?_⟩
        have hp : 0 < n := by
          rcases Nat.eq_zero_or_pos n with h0 | h0
          · have := hats.1; rw [h0, Nat.zero_mul] at this; exact absurd (List.eq_nil_of_length_eq_zero this) hne
          · exact h0
        obtain ⟨q, cap, hv, _, _⟩ := hats.form hp
        have hA : A5 = some ⟨q, 0, none⟩ := by injection hv
        subst hA
        have hcur : ∃ cur, W.heap[q]? = some (.cells cur 78 (0, 0)) := by
          rcases hats.2 with ⟨hv, _⟩ | ⟨g', cap', cur, hv, _, hg', _⟩
          · cases hv
          · injection hv with hv1 _ _
            injection hv1 with hv1
            injection hv1 with hv1
            subst hv1
            exact ⟨cur, hg'⟩
        obtain ⟨cur, hcur⟩ := hcur
        exact ⟨_, rfl, ⟨.inr (.inr rfl), cur, hcur⟩, hats.cells (g := q) rfl⟩
      · intro hn
        rcases hNJ with ⟨_, hj, h13⟩ | ⟨h13, _⟩
        · refine ⟨h13, fun j hj' e => ?_⟩
          rw [hj] at hj'
          obtain ⟨_, _, i', hi', e'⟩ := h10 j hj'
          rw [e'] at e
          injection e with _ e
          omega
        · exact absurd hn h13
      · intro hn
        rcases hNJ with ⟨h13, _⟩ | ⟨_, j, h13, _, _, h14, h15⟩
        · exact absurd h13 hn
        · exact ⟨j, by rw [h13]; exact List.mem_cons_self, h14, h15⟩
  · intro j hj
    rcases hcase with h | ⟨j', h, hd, ha, hb⟩
    · rw [h] at hj
      obtain ⟨h13, h14, i, hi, h15⟩ := h10 j hj
      exact ⟨h13, h14, i, by omega, h15⟩
    · rw [h] at hj
      rcases List.mem_cons.1 hj with rfl | hj
      · exact ⟨ha, hb, k, by omega, hd⟩
      · obtain ⟨h13, h14, i, hi, h15⟩ := h10 j hj
        exact ⟨h13, h14, i, by omega, h15⟩
  · rcases hcase with h | ⟨j', h, hd, _⟩
    · rw [h]; exact h11
    · rw [h, List.map_cons, List.nodup_cons]
      refine ⟨fun hm => ?_, h11⟩
      obtain ⟨j, hj, e⟩ := List.mem_map.1 hm
      obtain ⟨_, _, i, hi, e'⟩ := h10 j hj
      rw [e', hd] at e
      injection e with _ e
      omega
  · rw [wtL_take hk]
    rcases hNJ with ⟨_, hj, _⟩ | ⟨_, j, hj, _, _, _, hjt⟩
    · rw [hj]; omega
    · rw [hj, jbWt, hjt]; omega
theorem NIn.done {w wo wr : World} {g : Sto} {D E : Nat → Prop} {NJ S : List Jb} {j0 : Jb} {d : Addr} {l : List Nd} {arr : Array Value} {k : Nat} (hI : NInv w wo g D (j0 :: S) d l) (hN : NIn w wo wr g D E NJ (wo.heap.size + 1) j0 k arr) (hk : k = j0.trees.length) :
    NInv w (wr.setCell j0.d (.slice (some ⟨wo.heap.size + 1, 0, none⟩) j0.trees.length j0.trees.length)) g (fun q => D q ∨ E q) (NJ ++ S) d l := by
  subst hk
  obtain ⟨h1, h2, h3, h4, h5⟩ := hI
  obtain ⟨n1, n2, n3, n4, n5, n6, n7, n8, n9, n10, n11, n12⟩ := hN
  obtain ⟨_, _, hj0D, hj0s, dar, de, hda, hdne, hdo⟩ := h3 j0 (by simp)
  have hda2 := (n3 _ hj0D).trans hda
  have hdl := (Array.getElem?_eq_some_iff.1 hda).1
  have hDl : ∀ q, D q → q < wo.heap.size := fun q hq => by
    obtain ⟨_, x, e, hx⟩ := h2 q hq
    exact (Array.getElem?_eq_some_iff.1 hx).1
  have hsame := heap_setCell_same wr j0.d.block j0.d.off dar de (.slice (some ⟨wo.heap.size + 1, 0, none⟩) j0.trees.length j0.trees.length) hda2
  rw [← hj0s] at hsame
  have hoth : ∀ q, q ≠ j0.d.block → (wr.setCell j0.d (.slice (some ⟨wo.heap.size + 1, 0, none⟩) j0.trees.length j0.trees.length)).heap[q]? = wr.heap[q]? := fun q hq => heap_setCell_other hq
  have hR := hoth (wo.heap.size + 1) (by omega)
  have hDq : ∀ q, D q → ∃ a a' e, wo.heap[q]? = some (.cells a e (0, 0)) ∧ (wr.setCell j0.d (.slice (some ⟨wo.heap.size + 1, 0, none⟩) j0.trees.length j0.trees.length)).heap[q]? = some (.cells a' e (0, 0)) ∧ a'.size = a.size ∧
      (∀ o, (⟨q, o, none⟩ : Addr) ≠ j0.d → a'[o]? = a[o]?) ∧ (e = 78 → a' = a) := by
    intro q hq
    by_cases hqd : q = j0.d.block
    · subst hqd
      refine ⟨dar, _, de, hda, hsame, by simp, fun o ho => ?_, fun he => absurd he hdne⟩
      rw [Array.getElem?_setIfInBounds, if_neg]
      intro e
      exact ho (by rw [← e]; exact hj0s.symm)
    · obtain ⟨_, a, e, ha⟩ := h2 q hq
      exact ⟨a, a, e, ha, (hoth q hqd).trans ((n3 q hq).trans ha), rfl, fun _ _ => rfl, fun _ => rfl⟩
  rw [List.map_cons, List.nodup_cons] at h4
  refine ⟨n1.setCell (h2 _ hj0D).1 _, ?_, ?_, ?_, ?_⟩
  · rintro q (hq | hq)
    · obtain ⟨a, a', e, _, h6, _⟩ := hDq q hq
      exact ⟨(h2 q hq).1, _, _, h6⟩
    · obtain ⟨h6, a, e, ha⟩ := n8 q hq
      exact ⟨by have := h1.size; omega, a, e, (hoth q (by omega)).trans ha⟩
  · intro j hj
    rcases List.mem_append.1 hj with hj | hj
    · obtain ⟨h6, h7, i, hi, h8⟩ := n10 j hj
      refine ⟨h6, h7, by rw [h8]; exact .inr n7, by rw [h8], arr, _, by rw [h8]; exact hR.trans n5, by decide, by rw [h8]; simp only []; omega⟩
    · obtain ⟨h6, h7, h8, h9, a, e, ha, he, ho⟩ := h3 j (List.mem_cons_of_mem _ hj)
      refine ⟨h6, h7, .inl h8, h9, ?_⟩
      obtain ⟨b, b', e', h10, h11, h12, _⟩ := hDq _ h8
      rw [h10] at ha
      injection ha with ha
      injection ha with ha1 ha2
      subst ha1 ha2
      exact ⟨b', _, h11, he, by omega⟩
  · rw [List.map_append, List.nodup_append]
    refine ⟨n11, h4.2, fun x hx y hy e => ?_⟩
    subst e
    obtain ⟨j, hj, e1⟩ := List.mem_map.1 hx
    obtain ⟨j', hj', e2⟩ := List.mem_map.1 hy
    obtain ⟨_, _, i, _, h8⟩ := n10 j hj
    have h9 := hDl _ (h3 j' (List.mem_cons_of_mem _ hj')).2.2.1
    rw [e2, ← e1, h8] at h9
    simp only [] at h9
    omega
  · refine Wand.step (D' := fun q => D q ∨ E q) h5 (fun q hq => .inl hq) (.inr n7) (fun hq => by have := hDl _ hq; omega) hDq ?_ hj0D hj0s (fun j hj e => h4.1 (List.mem_map.2 ⟨j, hj, e⟩)) (hR.trans n5) n6 ?_ ?_ (fun j hj => (h3 j (List.mem_cons_of_mem _ hj)).2.2.1)
    · have := Lib.cell_of_heap hsame j0.d.off
      rw [← hj0s] at this
      rw [this]
      simp [hdo]
    · intro i hi
      refine (n9 i hi hi).keep (fun q hq => hoth q ?_) (fun q hq => hq) (fun _ _ => rfl) (fun j hj => hj) (fun j hj => .inl hj)
      rintro rfl
      obtain ⟨x, hx⟩ := hq.2
      rw [hda2] at hx
      injection hx with hx
      injection hx with _ hx
      exact hdne hx
    · intro j hj
      obtain ⟨_, _, i, _, h8⟩ := n10 j hj
      exact ⟨by rw [h8], i, h8⟩
set_option maxHeartbeats 8000000 in
set_option maxRecDepth 100000 in
theorem Nodes_ty {w : World} {base bb N : Nat} {z : Zp} (h : BI w base bb N z) (hN : N ≤ 10000) (hwt : wtL z.tree ≤ 1000000) :
    Calls Tryz.prog 352 #[.pointer (some ⟨bb, 0, none⟩)] w fun e w' => ∃ A c D, e = .returned (.slice A z.tree.length c) ∧ z.tree.length ≤ c ∧ NodesP w' D A z.tree.length z.tree ∧ Below w.heap.size w w' ∧
      RowTy w' D A z.tree ∧ (∀ q, D q → w.heap.size ≤ q ∧ q < w'.heap.size ∧ ∃ arr e, w'.heap[q]? = some (.cells arr e (0, 0))) := by
  obtain ⟨own, mm, g, outs, opens, hM, hZ⟩ := h
  have htr := hZ.tree
  have hlen := htr.length
  have hfo := hM.fewO
  obtain ⟨OV, PV, hb, hO, _⟩ := hM.blk
  obtain ⟨AO, cO, rfl, hcO⟩ := own_shape hO.row
  have hrdO : Rd w w.heap.size 1 AO outs.length (ptrs outs) := Rd.of_own hO.row
  have hbb := (hM.lt bb _ hM.me).2
  have c0 := Lib.cell_of_heap hb 0
  simp only [List.getElem?_toArray, List.getElem?_cons_zero] at c0
  have h0 := heap_alloc_new w (.cells #[.slice none 0 0] 26)
  have b0 : Below w.heap.size w (w.alloc (.cells #[.slice none 0 0] 26)) := (Below.refl _ w).alloc (Nat.le_refl _) _
  have HREC := Lib.hid hM.recs
  have HT := Lib.hid htr
  have HLEN := Lib.hid hlen
  clear hZ htr hlen
  go_enter Tryz.func352, Tryz.ntmps352
  go_wp2
  go_loopg [4] (1 + wtL z.tree) (fun gk v wr => ∃ S D, gk = jbWt S ∧ jbWt S ≤ 1 + wtL z.tree ∧ wr.ownsRow w.heap.size 478 2 v S.length (jbCells S) ∧ (∀ q, v.ownBlock = some q → ¬ D q) ∧ NInv w wr g D S ⟨w.heap.size, 0, none⟩ z.tree ∧ w.heap.size < wr.heap.size ∧ D w.heap.size)
  case atStart =>
    refine ⟨[⟨AO, cO, outs, z.tree, ⟨w.heap.size, 0, none⟩⟩], fun q => q = w.heap.size, by simp [jbWt], by simp [jbWt], ?_, ?_, ⟨?_, ?_, ?_, ?_, ?_⟩, by simp only [World.size_alloc]; omega, rfl⟩
    · have := World.ownsRow_lit (base := w.heap.size) (e := 478) (size := 2) (w.alloc (.cells #[.slice none 0 0] 26)) #[.slice AO outs.length cO, .pointer (some ⟨w.heap.size, 0, none⟩)] 1 (by simp) (by unfold maxLen; omega) rfl
      simpa [jbCells] using this
    · intro q hq
      simp only [Value.ownBlock, Option.some.injEq] at hq
      omega
    · exact b0.alloc (by simp) _
    · rintro q rfl
      exact ⟨Nat.le_refl _, _, _, (Below.heap_alloc _ _ _ (by simp)).trans h0⟩
    · intro j hj
      rw [List.mem_singleton] at hj
      subst hj
      exact ⟨⟨hrdO, hcO, by simp only []; omega, _, _, HT.out⟩, HLEN.out, rfl, rfl, _, _, (Below.heap_alloc _ _ _ (by simp)).trans h0, by decide, by simp⟩
    · simp
    · intro w2 D2 hD2 hag hrd
      exact hrd _ (List.mem_singleton.2 rfl)
  case round =>
    obtain ⟨S, D, rfl, hwS, hown, hoD, hI, hsz, hD0⟩ := hrel
    clear h0 b0 c0
    cases S with
    | nil =>
      obtain ⟨A', c', rfl, hc'⟩ := own_shape hown
      obtain ⟨A, n, c, r1, r2, r3, r4⟩ := hI.wand wr D (fun q hq => hq) (Agr.refl (fun q hq => (hI.dom q hq).2) _) (fun j hj => by cases hj)
      have hnl := r3.len
      subst hnl
      have HI := Lib.hid hI
      clear hI
      go_wp2
      go_ret
      exact ⟨A, c, D, rfl, r2, r3, HI.out.bel, r4, fun q hq => ⟨(HI.out.dom q hq).1, by obtain ⟨arr, e, he⟩ := (HI.out.dom q hq).2; exact (Array.getElem?_eq_some_iff.1 he).1, (HI.out.dom q hq).2⟩⟩
    | cons j0 S =>
      obtain ⟨qv, cap, rfl, hqv, hqvl⟩ := hown.form (by simp)
      simp only [List.length_cons] at hown ⊢
      have hcp : S.length + 1 ≤ cap := by
        obtain ⟨A', c', hv, hc'⟩ := own_shape hown
        injection hv with _ _ hv; omega
      have hxl := jbCells_length S
      have hwl := jbWt_le S
      have e0 := hown.cellAt (S.length * 2) (by omega)
      have e1 := hown.cellAt (S.length * 2 + 1) (by omega)
      rw [jbCells, List.getElem?_append_right (by omega), hxl, Nat.sub_self, List.getElem?_cons_zero] at e0
      rw [jbCells, List.getElem?_append_right (by omega), hxl, show S.length * 2 + 1 - S.length * 2 = 1 by omega, List.getElem?_cons_succ, List.getElem?_cons_zero] at e1
      have hpop := ownsRow_pop (size := 2) (n := S.length) (xs := jbCells S) hxl hown
      obtain ⟨hj0, hj0l, hj0D, hj0s, hj0c⟩ := hI.ok j0 (by simp)
      have hj0n := hj0.2.2.1
      have hdl : S.length ≤ 2000000 := by rw [jbWt] at hwS; omega
      have HX := Lib.hid hxl
      have HI := Lib.hid hI
      have HJL := Lib.hid hj0l
      have HJ := Lib.hid hj0
      have HD0 := Lib.hid hj0s
      clear hI hxl hj0l hj0 hj0s hown hwl
      obtain ⟨d, hd⟩ : ∃ d, d = S.length := ⟨_, rfl⟩
      rw [← hd] at e0 e1 hpop hcp hdl ⊢
      have HD := Lib.hid hd
      clear hd
      obtain ⟨ind, hind, hzd, hsd, hbd⟩ := info_parts infoNd
      have hjb := heap_alloc_new wr (.cells #[.slice j0.A j0.ids.length j0.c, .pointer (some j0.d)] 478)
      have hal := fun k hk => Below.heap_alloc wr (.cells #[.slice j0.A j0.ids.length j0.c, .pointer (some j0.d)] 478) k hk
      have hbl := HI.out.bel.alloc (by omega) (.cells #[.slice j0.A j0.ids.length j0.c, .pointer (some j0.d)] 478)
      have hpo := hpop.alloc (.cells #[.slice j0.A j0.ids.length j0.c, .pointer (some j0.d)] 478)
      have hs1 : (wr.alloc (.cells #[.slice j0.A j0.ids.length j0.c, .pointer (some j0.d)] 478)).heap.size = wr.heap.size + 1 := World.size_alloc _ _
      go_upto_region 7 with (at_make; go_must (refine wpList_make_full _ rfl _ _ 26 rfl w.heap.size 28 ind _ 5 Tryz.underlying26 hind hzd hsd .i64 .i64 _ _ j0.ids.length rfl rfl rfl rfl (by rw [hbd]; omega) (by unfold maxLen; omega) (by omega) ?_))
      intro w2 hown2 hg2
      obtain ⟨arr0, hrow0, hsz0⟩ : ∃ arr0, w2.heap[wr.heap.size + 1]? = some (.cells arr0 28 (0, 0)) ∧ arr0.size = j0.ids.length * 5 := by
        rcases hown2.2 with ⟨hv, _⟩ | ⟨g', cap', cur, hv, _, hg', _, _, hcs, _⟩
        · cases hv
        · injection hv with hv1 _ hv3
          injection hv1 with hv1
          injection hv1 with hv1
          subst hv1 hv3
          exact ⟨cur, hg', hcs⟩
      have hb2 := hbl.grown hg2 (by omega) (fun q hq => by cases hq)
      have hs2 := hg2.size
      rw [hs1] at hs2
      have hk2 : ∀ k, k < wr.heap.size + 1 → w2.heap[k]? = (wr.alloc (.cells #[.slice j0.A j0.ids.length j0.c, .pointer (some j0.d)] 478)).heap[k]? := fun k hk => hg2.block k (by omega) (by simp)
      have hr2 := (Array.getElem?_eq_some_iff.1 hrow0).1
      have hjb2 := (hk2 wr.heap.size (by omega)).trans hjb
      have hpo2 : w2.ownsRow w.heap.size 478 2 (.slice (some ⟨qv, 0, none⟩) d cap) d (jbCells S) := own_block hpo fun q hq => hk2 q (by simp [Value.ownBlock] at hq; omega)
      have hI2 : NIn w wr w2 g D (fun q => q = wr.heap.size + 1) [] (wr.heap.size + 1) j0 0 arr0 := by
        refine ⟨hb2, hr2, fun q hq => ?_, hjb2, hrow0, by rw [hsz0, HJL.out], rfl, fun q hq => ?_, fun i _ hi => absurd hi (by omega), fun j hj => by simp at hj, by simp, by simp [jbWt]⟩
        · obtain ⟨_, a, e, ha⟩ := HI.out.dom q hq
          have := (Array.getElem?_eq_some_iff.1 ha).1
          exact (hk2 q (by omega)).trans (hal q this)
        · subst hq
          exact ⟨by omega, _, _, hrow0⟩
      clear hown2 hrow0 hsz0 hg2 hk2 hjb2 hpo hpop hjb hal hbl hb2 hs1 e0 e1
      have hjc := Lib.cell_of_heap hI2.jbx 0
      simp only [List.getElem?_toArray, List.getElem?_cons_zero] at hjc
      have HPO := Lib.hid hpo2
      have HI2 := Lib.hid hI2
      clear hI2 hpo2
      go_wp2_with fail
      obtain ⟨wo, rfl⟩ : ∃ wo : World, wo = wr := ⟨_, rfl⟩
      go_loopw [4, 36] (fun v iv wx => ∃ (k m : Nat) (A4 : Option Addr) (c4 : Nat) (NJ : List Jb) (E : Nat → Prop) (arr : Array Value), v = .slice A4 m c4 ∧ iv = .int .i64 k ∧ k ≤ j0.ids.length ∧ Hid (m = (NJ ++ S).length) ∧ m ≤ d + k ∧
        Hid (wx.ownsRow w.heap.size 478 2 (.slice A4 m c4) m (jbCells (NJ ++ S))) ∧ Hid (∀ q, (Value.slice A4 m c4).ownBlock = some q → ¬ D q ∧ ¬ E q ∧ q ≠ wo.heap.size) ∧ Hid (NIn w wo wx g D E NJ (wo.heap.size + 1) j0 k arr)) (fun _ iv _ => j0.ids.length - (intOf iv).toNat)
      case atStart =>
        refine ⟨0, d, some ⟨qv, 0, none⟩, cap, [], _, arr0, rfl, rfl, Nat.zero_le _, HD.out, by omega, HPO.out, ?_, HI2.out⟩
        intro q hq
        have hq' : qv = q := by simpa [Value.ownBlock] using hq
        subst hq'
        exact ⟨hoD qv rfl, by omega, by omega⟩
      case round =>
        obtain ⟨k, m, A4, c4, NJ, E, arr, rfl, rfl, hk, hm, hmd, hown, hoE, hIn⟩ := hrel
        clear hjc
        by_cases hlt : k < j0.ids.length
        · have hlt' : k < j0.trees.length := by rw [← HJL.out]; exact hlt
          obtain ⟨hrd, _, _, hi, lo, htrs⟩ := HJ.out
          obtain ⟨a, u, hA, hab, hu, hca⟩ := hrd.at_ hlt
          rw [ptrs_at hlt] at hu
          injection hu with hu
          subst hu
          obtain ⟨hi', htr⟩ := htrs.at_ k hlt' hlt
          have hcx := (hIn.out.bel.cell (p := a.add k) (by rw [block_add]; exact hab)).trans hca
          have HNX := Lib.hid (fun W NJ' arr' n A5 c5 => NIn.next (W := W) (base := w.heap.size) (e2 := 78) (NJ' := NJ') (arr' := arr') (n := n) (A5 := A5) (c5 := c5) hIn.out hlt' (fun q hq => by obtain ⟨_, x, e, hx⟩ := HI.out.dom q hq; have := (Array.getElem?_eq_some_iff.1 hx).1; omega) rfl)
          generalize j0.trees[k] = nd at *
          generalize j0.ids[k] = b at *
          obtain ⟨kd, nm, ats, tx, kids⟩ := nd
          simp only [Tr] at htr
          obtain ⟨kidIds, hgb, hbhi, hkids⟩ := htr
          simp only [Nd.kind, Nd.name, Nd.attrs, Nd.text, Nd.kids] at HNX
          obtain ⟨q1, ⟨A1, n1, c1, TV, KV, hr0, hn1, hat, htv, hkv⟩, q2, q3, q4, q5⟩ := HREC.out b _ hgb
          simp only at hr0 q2 q3 q4 q5 hat
          obtain ⟨AT, cT, rfl, hcT⟩ := htv.row.shape
          obtain ⟨AK, cK, rfl, hcK⟩ := own_shape hkv.row
          have hrdT := htv.row.rd
          have hrdK := Rd.of_own hkv.row
          have hbl := (hM.lt b _ q1).2
          rw [hA]
          have hrx := (hIn.out.bel.block b hbl).trans hr0
          have hb0 := Lib.cell_of_heap hrx 0
          have hb1 := Lib.cell_of_heap hrx 1
          have hb2 := Lib.cell_of_heap hrx 2
          have hb3 := Lib.cell_of_heap hrx 3
          have hb4 := Lib.cell_of_heap hrx 4
          have hb5 := Lib.cell_of_heap hrx 5
          have hb6 := Lib.cell_of_heap hrx 6
          simp only [List.getElem?_toArray, List.getElem?_cons_zero, List.getElem?_cons_succ, sv] at hb0 hb1 hb2 hb3 hb4 hb5 hb6
          have hex : ∀ j, j < 5 → ∃ u, wr.cell? ⟨wo.heap.size + 1, k * 5 + j, none⟩ = some u := fun j hj => by
            rw [Lib.cell_of_heap hIn.out.row]
            exact ⟨_, Array.getElem?_eq_getElem (by have := hIn.out.sz; omega)⟩
          obtain ⟨u0, x0⟩ := hex 0 (by omega)
          obtain ⟨u1, x1⟩ := hex 1 (by omega)
          obtain ⟨u2, x2⟩ := hex 2 (by omega)
          obtain ⟨u3, x3⟩ := hex 3 (by omega)
          obtain ⟨u4, x4⟩ := hex 4 (by omega)
          have hfz := fun o => Lib.frozen_of_heap hIn.out.row o
          have x0' : wr.cell? ⟨wo.heap.size + 1, k * 5, none⟩ = some u0 := x0
          clear x0
          have HM := Lib.hid hM
          clear hM hrx hex hr0 hca hrd htrs hn1 htv hkv hgb
          go_upto_region 11 with fail
          have hIsz := hIn.out.sz
          obtain ⟨W1, arr1, eW1, r1, rs1, ro1, t0, t1, t2, t3, t4, wo1, ws1, wb1⟩ := five_sets hIn.out.row (o := k * 5) (by rw [hIsz]; omega) (.int .i64 kd) (.string ⟨nm.toArray⟩) (.slice A1 n1 c1) (.string ⟨(Rc.fixed ⟨kd, nm, ats, tx, kidIds⟩).toArray⟩) (.slice none 0 0)
          rw [← eW1]
          have hwsz := HI.out.bel.size
          have hIs := hIn.out.size
          have hbR : b ≠ wo.heap.size + 1 := by omega
          have hbW1 : Below w.heap.size w W1 := wb1 _ _ hIn.out.bel (by omega)
          have hcb1 : ∀ o, W1.cell? ⟨b, o, none⟩ = wr.cell? ⟨b, o, none⟩ := fun o => World.cell?_of_block (a := ⟨b, o, none⟩) (wo1 b hbR)
          rw [← hcb1] at hb0 hb2 hb5 hb6
          have hatW : Rd W1 w.heap.size 2 A1 n1 (atrCells ats) := (RdP.keep hat fun p hp => hbW1.cell (HM.out.lt _ _ hp).2).more (fun q hq => (HM.out.lt _ _ hq).2)
          have hn1l : n1 ≤ 1000 := by have := hat.1; rw [atrCells_length] at this; omega
          have hwW1 : w.heap.size ≤ W1.heap.size := by omega
          clear eW1 x0' x1 x2 x3 x4 u0 u1 u2 u3 u4 hfz hb1 hb3 hb4 hat hcb1
          go_upto_region 12 with (at_builtin; go_must (refine wpList_copy rfl _ _ _ rfl w.heap.size rowAt rfl w.heap.size A1 n1 c1 (atrCells ats) rfl hatW (atrCells_one ats) (by unfold maxLen; omega) (by omega) hwW1 ?_))
          intro A5 c5 W2 hc5 ho5 b5 hat5
          have hs2 := b5.size
          have hR1 : wo.heap.size + 1 < wr.heap.size := hIs
          have r2 := (b5.block _ (show wo.heap.size + 1 < wr.heap.size from hIs)).trans r1
          obtain ⟨W3, arr3, eW3, r3, rs3, ro3, t32, wo3, ws3, wb3⟩ := one_set r2 (o := k * 5 + 2) (by omega) (.slice A5 n1 c5)
          have x2 : W2.cell? ⟨wo.heap.size + 1, k * 5 + 2, none⟩ = some (.slice A1 n1 c1) := by rw [Lib.cell_of_heap r2]; exact t2
          have hfz2 : W2.frozen? ⟨wo.heap.size + 1, k * 5 + 2, none⟩ = false := Lib.frozen_of_heap r2 _
          have hcb3 : ∀ o, W3.cell? ⟨b, o, none⟩ = W1.cell? ⟨b, o, none⟩ := fun o => World.cell?_of_block (a := ⟨b, o, none⟩) ((wo3 b hbR).trans (b5.block b (by omega)))
          have hbW3 : Below w.heap.size w W3 := wb3 _ _ (hbW1.trans (b5.mono (by omega))) (by omega)
          rw [← hcb3] at hb0 hb5 hb6
          have hold3 : ∀ q, q ≠ wo.heap.size + 1 → q < wr.heap.size → W3.heap[q]? = wr.heap[q]? := fun q hq hl => (wo3 q hq).trans ((b5.block q (by omega)).trans (wo1 q hq))
          have hat3 : W3.ownsRow w.heap.size 78 2 (.slice A5 n1 c5) n1 (atrCells ats) := own_block ho5 fun q hq => wo3 q (by have := hat5 q hq; omega)
          have hrdT3 : Rd W3 w.heap.size 1 AT (Rc.grown ⟨kd, nm, ats, tx, kidIds⟩).length (Lib.byteCells (Rc.grown ⟨kd, nm, ats, tx, kidIds⟩)) := hrdT.below hbW3
          have k30 : arr3[k * 5]? = some (.int .i64 kd) := by rw [ro3 _ (by omega)]; exact t0
          have k31 : arr3[k * 5 + 1]? = some (sv nm) := by rw [ro3 _ (by omega)]; exact t1
          have k33 : arr3[k * 5 + 3]? = some (.string ⟨(Rc.fixed ⟨kd, nm, ats, tx, kidIds⟩).toArray⟩) := by rw [ro3 _ (by omega)]; exact t3
          have k34 : arr3[k * 5 + 4]? = some (.slice none 0 0) := by rw [ro3 _ (by omega)]; exact t4
          have hro3 : ∀ i, i < k → ∀ j, j < 5 → arr3[i * 5 + j]? = arr[i * 5 + j]? := fun i hi j hj => by rw [ro3 _ (by omega), ro1 _ (by omega)]
          have HA3 := Lib.hid hat3
          have HAT := Lib.hid hat5
          clear hat5 ho5 hat3 b5 t0 t1 t2 t3 t4 ro1 ro3 hbW1 hcb3 hatW hb2
          go_upto_region 12 with fail
          rw [← eW3]
          have HR3 := Lib.hid r3
          have HW3 := Lib.hid (And.intro hold3 hbW3)
          have HK3 := Lib.hid (And.intro k30 (And.intro k31 (And.intro t32 (And.intro k33 (And.intro k34 hro3)))))
          have x3 : W3.cell? ⟨wo.heap.size + 1, k * 5 + 3, none⟩ = some (.string ⟨(Rc.fixed ⟨kd, nm, ats, tx, kidIds⟩).toArray⟩) := by rw [Lib.cell_of_heap r3]; exact k33
          have hfz3 : W3.frozen? ⟨wo.heap.size + 1, k * 5 + 3, none⟩ = false := Lib.frozen_of_heap r3 _
          have hst : W3.heap.size = W2.heap.size := ws3
          have HS3 := Lib.hid (show wr.heap.size ≤ W3.heap.size by omega)
          have HSZ3 := Lib.hid (show arr3.size = arr.size by omega)
          clear eW3 k30 k31 t32 k33 k34 hro3 hold3 hbW3 r3 r2 r1 x2 hfz2 wb1 wb3 wo1 wo3 rs3 rs1 hrdT ws3 hst
          have htext : ∃ W4 arr4, Hid (W4.heap[wo.heap.size + 1]? = some (.cells arr4 28 (0, 0)) ∧ arr4.size = arr.size ∧ arr4[k * 5]? = some (.int .i64 kd) ∧ arr4[k * 5 + 1]? = some (sv nm) ∧ arr4[k * 5 + 2]? = some (.slice A5 n1 c5) ∧ arr4[k * 5 + 3]? = some (sv tx) ∧ arr4[k * 5 + 4]? = some (.slice none 0 0) ∧
              (∀ i, i < k → ∀ j, j < 5 → arr4[i * 5 + j]? = arr[i * 5 + j]?) ∧ (∀ q, q ≠ wo.heap.size + 1 → W4.heap[q]? = W3.heap[q]?) ∧ W4.heap.size = W3.heap.size ∧ Below w.heap.size w W4) ∧
              W4 = if kd = 2 then W3.setCell ⟨wo.heap.size + 1, k * 5 + 3, none⟩ (.string ⟨tx.toArray⟩) else W3 := by
            obtain ⟨k30, k31, t32, k33, k34, hro3⟩ := HK3.out
            by_cases hk2 : kd = 2
            · obtain ⟨W4, arr4, eW4, r4, rs4, ro4, t43, wo4, ws4, wb4⟩ := one_set HR3.out (o := k * 5 + 3) (by rw [HSZ3.out]; omega) (.string ⟨tx.toArray⟩)
              refine ⟨W4, arr4, ⟨r4, by rw [rs4, HSZ3.out], by rw [ro4 _ (by omega)]; exact k30, by rw [ro4 _ (by omega)]; exact k31, by rw [ro4 _ (by omega)]; exact t32, t43, by rw [ro4 _ (by omega)]; exact k34, fun i hi j hj => by rw [ro4 _ (by omega)]; exact hro3 i hi j hj, wo4, ws4, wb4 _ _ HW3.out.2 (by omega)⟩, by rw [if_pos hk2]; exact eW4⟩
            · exact ⟨W3, arr3, ⟨HR3.out, HSZ3.out, k30, k31, t32, by rw [k33]; simp only [Rc.fixed, hk2, if_false]; rfl, k34, hro3, fun _ _ => rfl, rfl, HW3.out.2⟩, by rw [if_neg hk2]⟩
          obtain ⟨W4, arr4, H4, eW4⟩ := htext
          have HTR := Lib.hid hkids
          by_cases hk2 : kd = 2
          have hcv : (convert 23 9 (.slice AT (Rc.grown ⟨kd, nm, ats, tx, kidIds⟩).length cT)).run Tryz.prog W3 = .ok (.string ⟨tx.toArray⟩) W3 := by
            have := run_bytes_str (P := Tryz.prog) hrdT3 23 5 9 cT Tryz.underlying23 Tryz.underlying5 Tryz.underlying9
            rw [this]
            simp only [Rc.grown, hk2, if_true]
          rw [if_pos hk2] at eW4
          have HE4 := Lib.hid eW4
          have hq2 : (kd == 2) = true := by simp [hk2]
          have HK2 := Lib.hid hk2
          clear eW4 hk2 hrdT3
          go_upto_region 14 with fail
          rw [← HE4.out]
          clear hcv
          rotate_left
          rw [if_neg hk2] at eW4
          have HE4 := Lib.hid eW4
          have hq2 : (kd == 2) = false := by simp [hk2]
          have HK2 := Lib.hid hk2
          clear eW4 hk2 hrdT3
          go_upto_region 14 with fail
          rw [← HE4.out]
          all_goals
            obtain ⟨r4, rs4, k40, k41, k42, k43, k44, hro4, wo4, ws4, hbW4⟩ := H4
            have hK4 : ∀ q, q ≠ wo.heap.size + 1 → q < wr.heap.size → W4.heap[q]? = wr.heap[q]? := fun q hq hl => (wo4 q hq).trans (HW3.out.1 q hq hl)
            have hbr : b < wr.heap.size := by omega
            have hb64 : W4.cell? ⟨b, 6, none⟩ = some (.slice AK kidIds.length cK) := (World.cell?_of_block (a := ⟨b, 6, none⟩) (wo4 b hbR)).trans hb6
            have hER := hIn.out.eR
            have hvq : ∀ q, (Value.slice A4 m c4).ownBlock = some q → q ≠ wo.heap.size + 1 ∧ q < wr.heap.size := fun q hq => ⟨fun e => (hoE.out q hq).2.1 (e ▸ hER), (hown.out.lt q hq).2⟩
            have hown4 : W4.ownsRow w.heap.size 478 2 (.slice A4 m c4) m (jbCells (NJ ++ S)) := own_block hown.out fun q hq => hK4 q (hvq q hq).1 (hvq q hq).2
            have hat4 : W4.ownsRow w.heap.size 78 2 (.slice A5 n1 c5) n1 (atrCells ats) := own_block HA3.out fun q hq => wo4 q (by have := HAT.out q hq; omega)
            have hkeep4 : ∀ q, (D q ∨ E q ∨ q = wo.heap.size) → q ≠ wo.heap.size + 1 ∧ q < wr.heap.size ∨ q = wo.heap.size + 1 := by
              intro q hq
              by_cases hqR : q = wo.heap.size + 1
              · exact .inr hqR
              · refine .inl ⟨hqR, ?_⟩
                rcases hq with hq | hq | hq
                · obtain ⟨_, x, e, hx⟩ := HI.out.dom q hq
                  have := (Array.getElem?_eq_some_iff.1 hx).1
                  omega
                · obtain ⟨_, x, e, hx⟩ := hIn.out.eNew q hq
                  exact (Array.getElem?_eq_some_iff.1 hx).1
                · omega
            have hoE' : ∀ q, (Value.slice A4 m c4).ownBlock = some q → ¬ D q ∧ ¬ (E q ∨ (Value.slice A5 n1 c5).ownBlock = some q) ∧ q ≠ wo.heap.size := fun q hq => ⟨(hoE.out q hq).1, fun h => by
              rcases h with h | h
              · exact (hoE.out q hq).2.1 h
              · have := HAT.out q h
                have := (hvq q hq).2
                omega, (hoE.out q hq).2.2⟩
            have hs4 : wr.heap.size ≤ W4.heap.size := by have := HS3.out; omega
            have hkl := HTR.out.length
            by_cases hkn : kidIds = []
            · subst hkn
              have hkn : kids = [] := List.eq_nil_of_length_eq_zero (by simpa using hkl.symm)
              have HF := Lib.hid (HNX.out W4 NJ arr4 n1 A5 c5 hbW4 hs4 (fun q hq hqR => by rcases hkeep4 q hq with ⟨_, h⟩ | h; exact hK4 q hqR h; exact absurd h hqR) r4 rs4 hro4 hat4 trivial HAT.out hc5 k40 k41 k42 k43 (.inl ⟨hkn, rfl, k44⟩))
              have HO4 := Lib.hid hown4
              have HOE := Lib.hid hoE'
              clear r4 rs4 k40 k41 k42 k43 k44 hro4 wo4 hbW4 hK4 hown4 hat4 hkeep4 hkl hkn HNX hoE'
              simp only [List.length_nil] at hb64
              go_wp2
              go_roundw
              case rel => exact ⟨k + 1, m, A4, c4, NJ, _, arr4, rfl, by go_num, by omega, hm, by omega, HO4, HOE, HF⟩
              case measure => simp [intOf]; omega
            · have hkne : kids ≠ [] := fun e => hkn (List.eq_nil_of_length_eq_zero (by rw [hkl, e]; rfl))
              have hpos : 0 < kidIds.length := List.length_pos_iff.2 hkn
              have hposI : (0 : Int) < (kidIds.length : Int) := by omega
              have hJ : JbOk w g ⟨AK, cK, kidIds, kids, ⟨wo.heap.size + 1, k * 5 + 4, none⟩⟩ := ⟨hrdK, hcK, by simp only []; omega, _, _, HTR.out⟩
              have hfin : ∀ (W5 W6 : World) (A6 : Option Addr) (c6 : Nat), W5.heap = W4.heap.push (.cells #[.slice AK kidIds.length cK, .pointer (some ⟨wo.heap.size + 1, k * 5 + 4, none⟩)] 478) → W5.os = W4.os → W5.tape = W4.tape → W5.output = W4.output → W5.grownBy W6 (Value.slice A4 m c4).ownBlock →
                  (∀ q, (Value.slice A6 (m + 1) c6).ownBlock = some q → (Value.slice A4 m c4).ownBlock = some q ∨ W5.heap.size ≤ q) →
                  Hid (∀ q, (Value.slice A6 (m + 1) c6).ownBlock = some q → ¬ D q ∧ ¬ (E q ∨ (Value.slice A5 n1 c5).ownBlock = some q) ∧ q ≠ wo.heap.size) ∧
                  Hid (NIn w wo W6 g D (fun q => E q ∨ (Value.slice A5 n1 c5).ownBlock = some q) (⟨AK, cK, kidIds, kids, ⟨wo.heap.size + 1, k * 5 + 4, none⟩⟩ :: NJ) (wo.heap.size + 1) j0 (k + 1) arr4) := by
                intro W5 W6 A6 c6 h5 h5o h5t h5p hg hat
                have hs5 : W5.heap.size = W4.heap.size + 1 := by rw [h5, Array.size_push]
                have hk5 : ∀ q, q < W4.heap.size → W5.heap[q]? = W4.heap[q]? := fun q hq => by rw [h5, Array.getElem?_push, if_neg (by omega)]
                have hk6 : ∀ q, q < W4.heap.size → (Value.slice A4 m c4).ownBlock ≠ some q → W6.heap[q]? = W4.heap[q]? := fun q hq hne => (hg.block q (by omega) (fun e => hne e.symm)).trans (hk5 q hq)
                refine ⟨fun q hq => ?_, ?_⟩
                · rcases hat q hq with h | h
                  · exact hoE' q h
                  · refine ⟨fun hD => ?_, fun hE => ?_, by omega⟩
                    · obtain ⟨_, x, e, hx⟩ := HI.out.dom q hD
                      have := (Array.getElem?_eq_some_iff.1 hx).1
                      omega
                    · rcases hE with hE | hE
                      · obtain ⟨_, x, e, hx⟩ := hIn.out.eNew q hE
                        have := (Array.getElem?_eq_some_iff.1 hx).1
                        omega
                      · have := (hat4.lt q hE).2
                        omega
                · have hbel5 : Below w.heap.size w W5 := hbW4.trans ⟨h5o, h5t, h5p, by omega, fun q hq => hk5 q (by omega)⟩
                  refine HNX.out W6 _ arr4 n1 A5 c5 (hbel5.grown hg (by omega) (own_ge hown4)) (by have := hg.size; omega) (fun q hq hqR => ?_) ?_ rs4 hro4 ?_ trivial HAT.out hc5 k40 k41 k42 k43 (.inr ⟨hkne, _, rfl, hJ, hkl, rfl, rfl⟩)
                  · rcases hkeep4 q hq with ⟨_, h⟩ | h
                    · refine (hk6 q (by omega) fun e => ?_).trans (hK4 q hqR h)
                      have := hoE.out q e
                      rcases hq with hq | hq | hq
                      · exact this.1 hq
                      · exact this.2.1 hq
                      · exact this.2.2 hq
                    · exact absurd h hqR
                  · exact (hk6 _ (by omega) fun e => (hvq _ e).1 rfl).trans r4
                  · exact own_block hat4 fun q hq => hk6 q (hat4.lt q hq).2 fun e => by have := HAT.out q hq; have := (hvq q e).2; omega
              have HFIN := Lib.hid hfin
              have HO4 := Lib.hid hown4
              have hbW5 : w.heap.size ≤ W4.heap.size := by omega
              clear r4 rs4 k40 k41 k42 k43 k44 hro4 wo4 ws4 hbW4 hK4 hown4 hat4 hkeep4 hkl hkn hkne HNX hoE' hfin hJ
              go_wp2
              go_region_law (refine step_push (by rfl) _ _ _ (by rfl) w.heap.size rowJb A4 m c4 _ (by rfl) ((HO4.out.alloc _).drew) W4.heap.size 1 _ (by rfl) (heap_alloc_new W4 _) (by rfl) (by simp [Value.oneCell']) (by unfold maxLen; omega) (by omega) (by simp; omega) ?_; intro A6 c6 W6 hc6 ho6 hg6 hat6)
              all_goals
                obtain ⟨HE6, HN6⟩ := HFIN.out (W4.alloc (.cells #[.slice AK kidIds.length cK, .pointer (some ⟨wo.heap.size + 1, k * 5 + 4, none⟩)] 478)).drew W6 A6 c6 rfl rfl rfl rfl hg6 hat6
                have HO6 := Lib.hid ho6
                clear hg6 hat6 ho6
                go_wp2
                go_roundw
                case rel => exact ⟨k + 1, m + 1, A6, c6, ⟨AK, cK, kidIds, kids, ⟨wo.heap.size + 1, k * 5 + 4, none⟩⟩ :: NJ, _, arr4, rfl, by go_num, by omega, by rw [hm.out]; rfl, by omega, HO6, HE6, HN6⟩
                case measure => simp [intOf]; omega
        · obtain rfl : k = j0.ids.length := by omega
          have hjc := Lib.cell_of_heap hIn.out.jbx 1
          simp only [List.getElem?_toArray, List.getElem?_cons_zero, List.getElem?_cons_succ] at hjc
          obtain ⟨dar, de, hda, hdne, hdo⟩ := hj0c
          have hda2 := (hIn.out.old _ hj0D).trans hda
          have hdl2 := (Array.getElem?_eq_some_iff.1 hda).1
          have hd0 := HD0.out
          obtain ⟨du, hdu⟩ : ∃ u, wr.cell? j0.d = some u := by
            rw [hd0, Lib.cell_of_heap hda2]
            exact ⟨_, Array.getElem?_eq_getElem hdo⟩
          have hdf : wr.frozen? j0.d = false := by rw [hd0]; exact Lib.frozen_of_heap hda2 _
          have hDone := NIn.done HI.out hIn.out HJL.out
          rw [← HJL.out] at hDone
          have hwtN := hIn.out.wt
          rw [HJL.out, List.take_of_length_le (Nat.le_refl _)] at hwtN
          have hown5 := ownsRow_setCell_other hown.out (a := j0.d) (fun e => (hoE.out _ e).1 hj0D) (.slice (some ⟨wo.heap.size + 1, 0, none⟩) j0.ids.length j0.ids.length)
          rw [hm.out] at hown5 
          have HW := Lib.hid hwtN
          have HDN := Lib.hid hDone
          have HO5 := Lib.hid hown5
          have HWS := Lib.hid hwS
          have hIs := hIn.out.size
          have hml := hm.out
          rw [hml]
          clear hDone hown5 hwtN hda hda2 hd0 hwS hml
          go_wp2
          go_roundg (jbWt (NJ ++ S))
          case measure => rw [jbWt_append, jbWt]; have := HW.out; omega
          case rel =>
            refine ⟨NJ ++ S, _, rfl, ?_, HO5.out, ?_, HDN.out, by rw [size_set]; omega, .inl hD0⟩
            · have := HWS.out
              rw [jbWt] at this
              rw [jbWt_append]
              have := HW.out
              omega
            · intro q hq h
              have := hoE.out q (by rw [hm.out]; exact hq)
              rcases h with h | h
              · exact this.1 h
              · exact this.2.1 h
theorem Nodes_any {w : World} {base bb N : Nat} {z : Zp} (h : BI w base bb N z) (hN : N ≤ 10000) (hwt : wtL z.tree ≤ 1000000) :
    Calls Tryz.prog 352 #[.pointer (some ⟨bb, 0, none⟩)] w fun e w' => ∃ A c D, e = .returned (.slice A z.tree.length c) ∧ z.tree.length ≤ c ∧ NodesP w' D A z.tree.length z.tree ∧ Below w.heap.size w w' ∧
      ∀ q, D q → w.heap.size ≤ q ∧ q < w'.heap.size ∧ ∃ arr e, w'.heap[q]? = some (.cells arr e (0, 0)) := by
  refine (Nodes_ty h hN hwt).mono ?_
  rintro e w' ⟨A, c, D, h1, h2, h3, h4, _, h5⟩
  exact ⟨A, c, D, h1, h2, h3, h4, h5⟩
end Go.Proofs.YtnkelhmjkmeilaaGreatDoor.K
end
